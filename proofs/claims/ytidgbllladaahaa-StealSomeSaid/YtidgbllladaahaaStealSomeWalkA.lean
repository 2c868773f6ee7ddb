/- The walks of StealSome, part 1: each function of the code as a plain function, and that a call of it computes that. Written by a program of mine. -/
import Derived.Test.YtidgbllladaahaaSortPlain
import Derived.Test.YtidgbllladaahaaPmS
set_option linter.all false
open Go Go.Proofs
namespace Go.PM
set_option maxRecDepth 20000
set_option maxHeartbeats 4000000
theorem mixed : Try.prog.follows .mixedOrders = true := rfl
theorem info_of {t : TypeId} {i : TypeInfo} (h : ∀ w, (typeInfo t).run Try.prog w = .ok i w) : Try.prog.info? t = some i := info_of_run h
theorem i3 : Try.prog.info? 3 = some Try.t3 := info_of Try.typeInfo3
theorem i22 : Try.prog.info? 22 = some Try.t22 := info_of Try.typeInfo22
theorem i23 : Try.prog.info? 23 = some Try.t23 := info_of Try.typeInfo23
theorem i24 : Try.prog.info? 24 = some Try.t24 := info_of Try.typeInfo24
theorem i25 : Try.prog.info? 25 = some Try.t25 := info_of Try.typeInfo25
theorem i27 : Try.prog.info? 27 = some Try.t27 := info_of Try.typeInfo27
theorem i30 : Try.prog.info? 30 = some Try.t30 := info_of Try.typeInfo30
theorem i31 : Try.prog.info? 31 = some Try.t31 := info_of Try.typeInfo31
theorem i33 : Try.prog.info? 33 = some Try.t33 := info_of Try.typeInfo33
theorem i42 : Try.prog.info? 42 = some Try.t42 := info_of Try.typeInfo42
theorem i51 : Try.prog.info? 51 = some Try.t51 := info_of Try.typeInfo51
theorem i57 : Try.prog.info? 57 = some Try.t57 := info_of Try.typeInfo57
theorem i58 : Try.prog.info? 58 = some Try.t58 := info_of Try.typeInfo58
theorem i64 : Try.prog.info? 64 = some Try.t64 := info_of Try.typeInfo64
theorem i81 : Try.prog.info? 81 = some Try.t81 := info_of Try.typeInfo81
def e3 (x : (Int)) : List T := [.v (.int .i64 x)]
def e51 (x : (Int × (List (Int)))) : List T := [.v (.int .i64 x.1), .sl (x.2.map e3)]
def e42 (x : ((List (Int)))) : List T := [.sl (x.map e3)]
def e57 (x : (Int × Int)) : List T := [.v (.int .i64 x.1), .v (.int .i64 x.2)]
structure F81 where
  f : FuncId
  caps : List (List T)
  run : Option (((List (Int × Int)) × Int × (List (Int × (List (Int)))) × (List ((List (Int)))) × Int × Int × Int))
  ok : ∀  (r : ((List (Int × Int)) × Int × (List (Int × (List (Int)))) × (List ((List (Int)))) × Int × Int × Int)), run  = some r → ACalls Try.prog f ([] ++ caps.map fun cs => .one (.tptr cs 0)) [] (.tup [(true, [.t (.sl (r.1.map e57)), .t (.v (.int .i64 r.2.1)), .t (.sl (r.2.2.1.map e51)), .t (.sl (r.2.2.2.1.map e42)), .t (.v (.int .u64 r.2.2.2.2.1))]), (false, [.t (.v (.int .i64 r.2.2.2.2.2.1))]), (false, [.t (.v (.int .i64 r.2.2.2.2.2.2))])]) []
def e81 (x : (F81)) : List T := [.clo x.f x.caps]

def ring_All (p0_0 : Int) (p0_1 : List (Int)) : Option (List (Int)) := (bif !decide (p0_0 = 0) then (app_ (([] : List (Int))) [p0_0]).bind fun v2 => some v2 else some (([] : List (Int))) : Option (List (Int))).bind fun v3 => (app_ v3 p0_1).bind fun v4 => some v4
theorem ring_All_calls (p0_0 : Int) (p0_1 : List (Int)) (r : List (Int)) (h : ring_All p0_0 p0_1 = some r) : ACalls Try.prog 23 [.agg [.t (.v (.int .i64 p0_0)), .t (.sl (p0_1.map e3))]] [] (.one (.t (.sl (r.map e3)))) [] := by
  unfold ring_All at h
  refine acalls_of_AW Try.func23 rfl Try.call23 (by decide) (show 1 ≤ 16 by decide) rfl rfl ?_
  refine aw_seq ?_
  refine aw_region (.cons (.plain rfl (k_boxN rfl rfl (by decide) .tmp rfl)) ⟨rfl, trivial⟩ rfl <| .cons (.plain rfl (c_assign rfl rfl (by decide) .nilT)) trivial rfl <| .nil) ?_
  show AW _ _ _ _ _
  refine aw_seq ?_
  refine aw_region (.cons (.plain rfl (c_assign rfl rfl (by decide) (.const rfl))) trivial rfl <| .nil) ?_
  show AW _ _ _ _ _
  refine aw_seq ?_
  refine aw_cut0 (fun v3 : List (Int) => [(.tmp 1, .m (.one (.ptr 1 0))), (.tmp 3, .m (.one (.row 500001))), (.cell 1 0, .c (.t (.v (.int .i64 p0_0)))), (.cell 1 1, .c (.t (.sl (p0_1.map e3)))), (.row 500001, .r 3 1 (v3.map e3))]) h (fun _ h => ?_) (fun v3 h => ?_)
  · refine aw_seq ?_
    refine aw_region (.cons (.plain rfl (k_fieldP 3 0 rfl rfl (by decide) Try.underlying51 rfl i3 (by decide) .tmp)) ⟨rfl, trivial⟩ rfl <| .cons (.plain rfl (c_loadCell rfl rfl (by decide) Try.isAgg3 .tmp)) ⟨rfl, rfl, trivial⟩ rfl <| .cons (.plain rfl (c_neq rfl rfl (by decide) .tmp (.const rfl))) ⟨rfl, trivial⟩ rfl <| .nil) ?_
    show AW _ _ _ _ _
    refine aw_cond .tmp ⟨rfl, trivial⟩ (fun hc2 => ?_) (fun hc2 => ?_)
    · have h := of_true hc2 h
      obtain ⟨v2, hv2, h⟩ := bind_some h
      refine aw_region (.cons (.plain rfl (c_move rfl rfl (by decide) .tmp)) ⟨rfl, trivial⟩ rfl <| .cons (.plain rfl (k_fieldP 3 0 rfl rfl (by decide) Try.underlying51 rfl i3 (by decide) .tmp)) ⟨rfl, trivial⟩ rfl <| .cons (.plain rfl (c_loadCell rfl rfl (by decide) Try.isAgg3 .tmp)) ⟨rfl, rfl, trivial⟩ rfl <| .cons (.plain rfl (.frozen (by simp) (c_buildSlice (sz := 1) (es := [p0_0].map e3) rfl rfl (by decide) Try.underlying42 i3 rfl rfl rfl rfl (by decide) (.c1 .tmp .nil) rfl (emb_len (f := e3) (n := 1) (fun _ => rfl) _) (by decide)))) ⟨rfl, trivial⟩ rfl <| .cons (.plain rfl (k_appendNil (f := e3) hv2 (by decide) rfl rfl (by decide) Try.underlying42 i3 rfl rfl rfl rfl (by decide) .tmp (src_tree (f := e3) (fun _ => rfl) (by decide) .tmp))) ⟨rfl, rfl, trivial⟩ rfl <| .cons (.plain rfl (c_assign rfl rfl (by decide) .tmp)) ⟨rfl, trivial⟩ rfl <| .nil) ?_
      obtain rfl := Option.some.inj h
      show Goes _ _
      exact (Goes.into [(1, 1), (500001, 11)] ⟨rfl, rfl, .refl, .refl, .refl, .refl, .refl, trivial⟩)
    · have h := of_false hc2 h
      refine aw_skip ?_
      obtain rfl := Option.some.inj h
      show Goes _ _
      exact (Goes.trans (Goes.nilRow (t := 3) (n := 500002) 3 1 (by decide) rfl (by decide) rfl) (Goes.into [(1, 1), (500001, 500002)] ⟨rfl, rfl, .refl, .refl, .refl, .refl, .refl, trivial⟩))
  · show AW _ _ _ _ _
    refine aw_seq ?_
    obtain ⟨v4, hv4, h⟩ := bind_some h
    refine aw_region (.cons (.plain rfl (c_move rfl rfl (by decide) .tmp)) ⟨rfl, trivial⟩ rfl <| .cons (.plain rfl (k_fieldP 42 1 rfl rfl (by decide) Try.underlying51 rfl i42 (by decide) .tmp)) ⟨rfl, trivial⟩ rfl <| .cons (.plain rfl (c_loadCell rfl rfl (by decide) Try.isAgg42 .tmp)) ⟨rfl, rfl, trivial⟩ rfl <| .cons (.plain rfl (.frozen (by simp [killed, Loc.names, Val.names]) (k_appendRow (f := e3) hv4 (by decide) (by decide) rfl rfl (by decide) Try.underlying42 i3 rfl rfl rfl rfl (by decide) .tmp (src_tree (f := e3) (fun _ => rfl) (by decide) .tmp)))) ⟨rfl, rfl, rfl, trivial⟩ rfl <| .cons (.plain rfl (c_assign rfl rfl (by decide) .tmp)) ⟨rfl, trivial⟩ rfl <| .nil) ?_
    show AW _ _ _ _ _
    refine aw_goes (σ' := [(.tmp 2, .m (.one (.t (.sl (v4.map e3)))))]) (Goes.into [] ⟨rfl, rfl, .refl, trivial⟩) ?_
    refine aw_ret ?_
    obtain rfl := Option.some.inj h
    exact ⟨.inr rfl, _, [], (.tmp rfl .nil), rfl, rfl, rfl, ⟨rfl, rfl, trivial⟩⟩

def runs_All_L1 (p0_2 : List (Int × (List (Int)))) (v9 : ((List (Int)) × Int)) : Option (((List (Int)) × Int) ⊕ List (Int)) := bif decide (v9.2 < (p0_2.length : Int)) then (at_ p0_2 v9.2).bind fun v11 => (ring_All v11.1 v11.2).bind fun v12 => (app_ v9.1 v12).bind fun v13 => some (.inl ((v13, wi64 (v9.2 + 1)))) else some (.inr v9.1)
def runs_All_L2 (p0_3 : List ((List (Int)))) (v20 : ((List (Int)) × Int)) : Option (((List (Int)) × Int) ⊕ List (Int)) := bif decide (v20.2 < (p0_3.length : Int)) then (at_ p0_3 v20.2).bind fun v22 => (app_ v20.1 v22).bind fun v23 => some (.inl ((v23, wi64 (v20.2 + 1)))) else some (.inr v20.1)
def runs_All (p0_0 : List (Int × Int)) (p0_1 : Int) (p0_2 : List (Int × (List (Int)))) (p0_3 : List ((List (Int)))) (p0_4 : Int) : Option (List (Int)) := (loopO (runs_All_L1 p0_2) fuel ((([] : List (Int)), 0))).bind fun v10 => (loopO (runs_All_L2 p0_3) fuel ((v10, 0))).bind fun v21 => some v21
theorem runs_All_calls (p0_0 : List (Int × Int)) (p0_1 : Int) (p0_2 : List (Int × (List (Int)))) (p0_3 : List ((List (Int)))) (p0_4 : Int) (r : List (Int)) (h : runs_All p0_0 p0_1 p0_2 p0_3 p0_4 = some r) : ACalls Try.prog 20 [.agg [.t (.sl (p0_0.map e57)), .t (.v (.int .i64 p0_1)), .t (.sl (p0_2.map e51)), .t (.sl (p0_3.map e42)), .t (.v (.int .u64 p0_4))]] [] (.one (.t (.sl (r.map e3)))) [] := by
  unfold runs_All at h
  refine acalls_of_AW Try.func20 rfl Try.call20 (by decide) (show 1 ≤ 32 by decide) rfl rfl ?_
  refine aw_seq ?_
  refine aw_region (.cons (.plain rfl (k_boxN rfl rfl (by decide) .tmp rfl)) ⟨rfl, trivial⟩ rfl <| .cons (.plain rfl (c_assign rfl rfl (by decide) .nilT)) trivial rfl <| .nil) ?_
  show AW _ _ _ _ _
  refine aw_seq ?_
  refine aw_region (.cons (.plain rfl (c_assign rfl rfl (by decide) (.const rfl))) trivial rfl <| .nil) ?_
  show AW _ _ _ _ _
  refine aw_seq ?_
  refine aw_seq ?_
  refine aw_region (.cons (.plain rfl (k_fieldP 30 2 rfl rfl (by decide) Try.underlying33 rfl i30 (by decide) .tmp)) ⟨rfl, trivial⟩ rfl <| .cons (.plain rfl (c_loadCell rfl rfl (by decide) Try.isAgg30 .tmp)) ⟨rfl, rfl, trivial⟩ rfl <| .cons (.plain rfl (k_len (i := Try.t51) (l := p0_2) (f := e51) (fun _ => rfl) (by decide) rfl rfl (by decide) Try.underlying30 (src_tree (f := e51) (fun _ => rfl) (by decide) .tmp))) ⟨rfl, trivial⟩ rfl <| .cons (.plain rfl (c_move rfl rfl (by decide) (.const rfl))) trivial rfl <| .nil) ?_
  show AW _ _ _ _ _
  refine aw_loop0 (fun v9 : ((List (Int)) × Int) => [(.tmp 1, .m (.one (.ptr 1 0))), (.tmp 3, .m (.one (.row 500002))), (.tmp 9, .m (.one (.t (.sl (p0_2.map e51))))), (.tmp 10, .m (.one (.t (.v (.int .i64 ((p0_2.length : Int))))))), (.tmp 11, .m (.one (.t (.v (.int .i64 v9.2))))), (.cell 1 0, .c (.t (.sl (p0_0.map e57)))), (.cell 1 1, .c (.t (.v (.int .i64 p0_1)))), (.cell 1 2, .c (.t (.sl (p0_2.map e51)))), (.cell 1 3, .c (.t (.sl (p0_3.map e42)))), (.cell 1 4, .c (.t (.v (.int .u64 p0_4)))), (.row 500002, .r 3 1 (v9.1.map e3))]) (fun v10 : List (Int) => [(.tmp 1, .m (.one (.ptr 1 0))), (.tmp 3, .m (.one (.row 500004))), (.cell 1 0, .c (.t (.sl (p0_0.map e57)))), (.cell 1 1, .c (.t (.v (.int .i64 p0_1)))), (.cell 1 2, .c (.t (.sl (p0_2.map e51)))), (.cell 1 3, .c (.t (.sl (p0_3.map e42)))), (.cell 1 4, .c (.t (.v (.int .u64 p0_4)))), (.row 500004, .r 3 1 (v10.map e3))]) h (Goes.trans (Goes.nilRow (t := 3) (n := 500011) 3 1 (by decide) rfl (by decide) rfl) (Goes.into [(1, 1), (500002, 500011)] ⟨rfl, rfl, .refl, .refl, .refl, .refl, .refl, .refl, .refl, .refl, .refl, .refl, .refl, trivial⟩)) (fun v9 _ h => ?_) (fun v10 h => ?_)
  · unfold runs_All_L1 at h
    refine aw_seq ?_
    refine aw_region (.cons (.plain rfl (c_lss rfl rfl (by decide) .tmp .tmp)) ⟨rfl, rfl, trivial⟩ rfl <| .nil) ?_
    show AW _ _ _ _ _
    refine aw_seq ?_
    refine aw_cond .tmp ⟨rfl, trivial⟩ (fun hc3 => ?_) (fun hc3 => ?_)
    · have h := of_true hc3 h
      refine aw_skip ?_
      show AW _ _ _ _ _
      refine aw_seq ?_
      refine aw_block ?_
      refine aw_seq ?_
      obtain ⟨v11, hv11, h⟩ := bind_some h
      refine aw_region (.cons (.plain rfl (k_index (f := e51) (i := Try.t51) hv11 rfl rfl rfl (by decide) Try.underlying30 i51 .tmp .tmp)) ⟨rfl, rfl, trivial⟩ rfl <| .cons (.plain rfl (c_loadTrees (cs := [.v (.int .i64 v11.1), .sl (v11.2.map e3)]) rfl rfl (by decide) Try.isAgg51 i51 rfl (show 0 + 2 ≤ 2 by decide) .tmp)) ⟨rfl, trivial⟩ rfl <| .cons (.plain rfl (c_alloc rfl rfl (by decide) i51 rfl rfl rfl)) trivial rfl <| .cons (.plain rfl (c_storeBox (cs0 := [.t (.v (.int .i64 0)), .t (.v (.slice none 0 0))]) (cs := [.t (.v (.int .i64 v11.1)), .t (.sl (v11.2.map e3))]) rfl rfl i51 rfl rfl .tmp .tmp)) ⟨rfl, rfl, rfl, rfl, trivial⟩ rfl <| .nil) ?_
      show AW _ _ _ _ _
      obtain ⟨v12, hv12, h⟩ := bind_some h
      obtain ⟨v13, hv13, h⟩ := bind_some h
      refine aw_region (.cons (.plain rfl (c_move rfl rfl (by decide) .tmp)) ⟨rfl, trivial⟩ rfl <| .cons (.plain rfl (c_loadBox (cs := [.t (.v (.int .i64 v11.1)), .t (.sl (v11.2.map e3))]) rfl rfl (by decide) Try.isAgg51 i51 rfl .tmp)) ⟨rfl, rfl, rfl, trivial⟩ rfl <| .cons (.plain rfl (c_call (ins := [.agg [.t (.v (.int .i64 v11.1)), .t (.sl (v11.2.map e3))]]) (caps := []) rfl rfl rfl (by decide) .clo (ring_All_calls _ _ _ hv12) (.cons .tmp .nil) rfl rfl)) ⟨rfl, trivial⟩ rfl <| .cons (.plain rfl (k_appendRow (f := e3) hv13 (by decide) (by decide) rfl rfl (by decide) Try.underlying42 i3 rfl rfl rfl rfl (by decide) .tmp (src_tree (f := e3) (fun _ => rfl) (by decide) .tmp))) ⟨rfl, rfl, rfl, trivial⟩ rfl <| .cons (.plain rfl (c_assign rfl rfl (by decide) .tmp)) ⟨rfl, trivial⟩ rfl <| .nil) ?_
      show AW _ _ _ _ _
      refine aw_region (.cons (.plain rfl (c_add rfl rfl (by decide) .tmp (.const rfl))) ⟨rfl, trivial⟩ rfl <| .cons (.plain rfl (c_move rfl rfl (by decide) .tmp)) ⟨rfl, trivial⟩ rfl <| .nil) ?_
      obtain rfl := Option.some.inj h
      exact ⟨_, rfl, (Goes.into [(1, 1), (500002, 18)] ⟨rfl, rfl, .refl, .refl, .refl, .refl, .refl, .refl, .refl, .refl, .refl, .refl, .refl, trivial⟩)⟩
    · have h := of_false hc3 h
      refine aw_exit ?_
      obtain rfl := Option.some.inj h
      exact ⟨rfl, _, rfl, (Goes.into [(1, 1), (500004, 500002)] ⟨rfl, rfl, .refl, .refl, .refl, .refl, .refl, .refl, .refl, .refl, trivial⟩)⟩
  · show AW _ _ _ _ _
    refine aw_seq ?_
    refine aw_seq ?_
    refine aw_region (.cons (.plain rfl (k_fieldP 24 3 rfl rfl (by decide) Try.underlying33 rfl i24 (by decide) .tmp)) ⟨rfl, trivial⟩ rfl <| .cons (.plain rfl (c_loadCell rfl rfl (by decide) Try.isAgg24 .tmp)) ⟨rfl, rfl, trivial⟩ rfl <| .cons (.plain rfl (k_len (i := Try.t42) (l := p0_3) (f := e42) (fun _ => rfl) (by decide) rfl rfl (by decide) Try.underlying24 (src_tree (f := e42) (fun _ => rfl) (by decide) .tmp))) ⟨rfl, trivial⟩ rfl <| .cons (.plain rfl (c_move rfl rfl (by decide) (.const rfl))) trivial rfl <| .nil) ?_
    show AW _ _ _ _ _
    refine aw_loop0 (fun v20 : ((List (Int)) × Int) => [(.tmp 3, .m (.one (.row 500007))), (.tmp 21, .m (.one (.t (.sl (p0_3.map e42))))), (.tmp 22, .m (.one (.t (.v (.int .i64 ((p0_3.length : Int))))))), (.tmp 23, .m (.one (.t (.v (.int .i64 v20.2))))), (.row 500007, .r 3 1 (v20.1.map e3))]) (fun v21 : List (Int) => [(.tmp 3, .m (.one (.row 500009))), (.row 500009, .r 3 1 (v21.map e3))]) h (Goes.into [(500007, 500004)] ⟨rfl, rfl, .refl, .refl, .refl, .refl, .refl, trivial⟩) (fun v20 _ h => ?_) (fun v21 h => ?_)
    · unfold runs_All_L2 at h
      refine aw_seq ?_
      refine aw_region (.cons (.plain rfl (c_lss rfl rfl (by decide) .tmp .tmp)) ⟨rfl, rfl, trivial⟩ rfl <| .nil) ?_
      show AW _ _ _ _ _
      refine aw_seq ?_
      refine aw_cond .tmp ⟨rfl, trivial⟩ (fun hc6 => ?_) (fun hc6 => ?_)
      · have h := of_true hc6 h
        refine aw_skip ?_
        show AW _ _ _ _ _
        refine aw_seq ?_
        refine aw_block ?_
        refine aw_seq ?_
        obtain ⟨v22, hv22, h⟩ := bind_some h
        refine aw_region (.cons (.plain rfl (k_index (f := e42) (i := Try.t42) hv22 rfl rfl rfl (by decide) Try.underlying24 i42 .tmp .tmp)) ⟨rfl, rfl, trivial⟩ rfl <| .cons (.plain rfl (c_loadTree rfl rfl (by decide) Try.isAgg42 .tmp rfl)) ⟨rfl, trivial⟩ rfl <| .cons (.plain rfl (c_assign rfl rfl (by decide) .tmp)) ⟨rfl, trivial⟩ rfl <| .nil) ?_
        show AW _ _ _ _ _
        obtain ⟨v23, hv23, h⟩ := bind_some h
        refine aw_region (.cons (.plain rfl (c_move rfl rfl (by decide) .tmp)) ⟨rfl, trivial⟩ rfl <| .cons (.plain rfl (c_move rfl rfl (by decide) .tmp)) ⟨rfl, trivial⟩ rfl <| .cons (.plain rfl (k_appendRow (f := e3) hv23 (by decide) (by decide) rfl rfl (by decide) Try.underlying42 i3 rfl rfl rfl rfl (by decide) .tmp (src_tree (f := e3) (fun _ => rfl) (by decide) .tmp))) ⟨rfl, rfl, rfl, trivial⟩ rfl <| .cons (.plain rfl (c_assign rfl rfl (by decide) .tmp)) ⟨rfl, trivial⟩ rfl <| .nil) ?_
        show AW _ _ _ _ _
        refine aw_region (.cons (.plain rfl (c_add rfl rfl (by decide) .tmp (.const rfl))) ⟨rfl, trivial⟩ rfl <| .cons (.plain rfl (c_move rfl rfl (by decide) .tmp)) ⟨rfl, trivial⟩ rfl <| .nil) ?_
        obtain rfl := Option.some.inj h
        exact ⟨_, rfl, (Goes.into [(500007, 29)] ⟨rfl, rfl, .refl, .refl, .refl, .refl, .refl, trivial⟩)⟩
      · have h := of_false hc6 h
        refine aw_exit ?_
        obtain rfl := Option.some.inj h
        exact ⟨rfl, _, rfl, (Goes.into [(500009, 500007)] ⟨rfl, rfl, .refl, .refl, trivial⟩)⟩
    · show AW _ _ _ _ _
      refine aw_seq ?_
      refine aw_region (.cons (.plain rfl (c_move rfl rfl (by decide) .tmp)) ⟨rfl, trivial⟩ rfl <| .cons (.plain rfl (c_assign rfl rfl (by decide) .tmp)) ⟨rfl, trivial⟩ rfl <| .nil) ?_
      show AW _ _ _ _ _
      refine aw_goes (σ' := [(.tmp 2, .m (.one (.t (.sl (v21.map e3)))))]) (Goes.trans (Goes.freezeRow (n := 500009) rfl) (Goes.into [] ⟨rfl, rfl, .refl, trivial⟩)) ?_
      refine aw_ret ?_
      obtain rfl := Option.some.inj h
      exact ⟨.inr rfl, _, [], (.tmp rfl .nil), rfl, rfl, rfl, ⟨rfl, rfl, trivial⟩⟩

def bits_bit (p0 : Int) : Option Int := (bif decide (p0 < 0) then some true else some (decide (64 ≤ p0)) : Option Bool).bind fun v1 => bif v1 then some 0 else (need (0 ≤ p0)).bind fun v2 => some (shlK .u64 1 p0)
theorem bits_bit_calls (p0 : Int) (r : Int) (h : bits_bit p0 = some r) : ACalls Try.prog 58 [.one (.t (.v (.int .i64 p0)))] [] (.one (.t (.v (.int .u64 r)))) [] := by
  unfold bits_bit at h
  refine acalls_of_AW Try.func58 rfl Try.call58 (by decide) (show 1 ≤ 11 by decide) rfl rfl ?_
  refine aw_seq ?_
  refine aw_region (.cons (.plain rfl (c_assign rfl rfl (by decide) (.const rfl))) trivial rfl <| .nil) ?_
  show AW _ _ _ _ _
  refine aw_seq ?_
  refine aw_seq ?_
  refine aw_cut0 (fun v1 : Bool => [(.tmp 0, .m (.one (.t (.v (.int .i64 p0))))), (.tmp 8, .m (.one (.t (.v (.bool v1)))))]) h (fun _ h => ?_) (fun v1 h => ?_)
  · cases hc2 : decide (p0 < 0) with
    | true =>
      have h := of_true hc2 h
      refine aw_region (.cons (.plain rfl (c_move rfl rfl (by decide) .tmp)) ⟨rfl, trivial⟩ rfl <| .cons (.plain rfl (c_lss rfl rfl (by decide) .tmp (.const rfl))) ⟨rfl, trivial⟩ rfl <| .cons (.plain rfl (c_move rfl rfl (by decide) .tmp)) ⟨rfl, trivial⟩ rfl <| .cons (.off (b' := true) rfl rfl rfl rfl (by decide)) ⟨(congrArg mB hc2), trivial⟩ rfl <| .cons (.off (b' := true) rfl rfl rfl rfl (by decide)) ⟨(congrArg mB hc2), trivial⟩ rfl <| .cons (.plain rfl (c_pick (b := true) rfl rfl (by decide) .tmp rfl (.const rfl))) ⟨(congrArg mB hc2), trivial⟩ rfl <| .nil) ?_
      obtain rfl := Option.some.inj h
      show Goes _ _
      exact (Goes.into [] ⟨rfl, rfl, .refl, .refl, trivial⟩)
    | false =>
      have h := of_false hc2 h
      refine aw_region (.cons (.plain rfl (c_move rfl rfl (by decide) .tmp)) ⟨rfl, trivial⟩ rfl <| .cons (.plain rfl (c_lss rfl rfl (by decide) .tmp (.const rfl))) ⟨rfl, trivial⟩ rfl <| .cons (.plain rfl (c_move rfl rfl (by decide) .tmp)) ⟨rfl, trivial⟩ rfl <| .cons (.on (t := 5) rfl rfl (c_move rfl rfl (by decide) .tmp)) ⟨(congrArg mB hc2), rfl, trivial⟩ rfl <| .cons (.on (t := 5) rfl rfl (c_geq rfl rfl (by decide) .tmp (.const rfl))) ⟨(congrArg mB hc2), rfl, trivial⟩ rfl <| .cons (.plain rfl (c_pick (b := false) rfl rfl (by decide) .tmp rfl .tmp)) ⟨(congrArg mB hc2), rfl, trivial⟩ rfl <| .nil) ?_
      obtain rfl := Option.some.inj h
      show Goes _ _
      exact (Goes.into [] ⟨rfl, rfl, .refl, .refl, trivial⟩)
  · show AW _ _ _ _ _
    refine aw_cond .tmp ⟨rfl, trivial⟩ (fun hc3 => ?_) (fun hc3 => ?_)
    · have h := of_true hc3 h
      refine aw_seq ?_
      refine aw_region (.cons (.plain rfl (c_assign rfl rfl (by decide) (.const rfl))) trivial rfl <| .nil) ?_
      show AW _ _ _ _ _
      refine aw_goes (σ' := [(.tmp 2, .m (.one (.t (.v (.int .u64 0)))))]) (Goes.into [] ⟨rfl, rfl, .refl, trivial⟩) ?_
      refine aw_ret ?_
      obtain rfl := Option.some.inj h
      exact ⟨.inr rfl, _, [], (.tmp rfl .nil), rfl, rfl, rfl, ⟨rfl, rfl, trivial⟩⟩
    · have h := of_false hc3 h
      refine aw_skip ?_
      show AW _ _ _ _ _
      refine aw_seq ?_
      obtain ⟨v2, hv2, h⟩ := bind_some h
      refine aw_region (.cons (.plain rfl (c_move rfl rfl (by decide) .tmp)) ⟨rfl, trivial⟩ rfl <| .cons (.plain rfl (c_shl (need_of hv2) rfl rfl (by decide) (.const rfl) .tmp)) ⟨rfl, trivial⟩ rfl <| .cons (.plain rfl (c_assign rfl rfl (by decide) .tmp)) ⟨rfl, trivial⟩ rfl <| .nil) ?_
      show AW _ _ _ _ _
      refine aw_goes (σ' := [(.tmp 2, .m (.one (.t (.v (.int .u64 (shlK .u64 1 p0))))))]) (Goes.into [] ⟨rfl, rfl, .refl, trivial⟩) ?_
      refine aw_ret ?_
      obtain rfl := Option.some.inj h
      exact ⟨.inr rfl, _, [], (.tmp rfl .nil), rfl, rfl, rfl, ⟨rfl, rfl, trivial⟩⟩

def bits_Set_Has (p0 : Int) (p1 : Int) : Option Bool := (bits_bit p1).bind fun v1 => some (!decide (bitsAnd .u64 p0 v1 = 0))
theorem bits_Set_Has_calls (p0 : Int) (p1 : Int) (r : Bool) (h : bits_Set_Has p0 p1 = some r) : ACalls Try.prog 27 [.one (.t (.v (.int .u64 p0))), .one (.t (.v (.int .i64 p1)))] [] (.one (.t (.v (.bool r)))) [] := by
  unfold bits_Set_Has at h
  refine acalls_of_AW Try.func27 rfl Try.call27 (by decide) (show 2 ≤ 10 by decide) rfl rfl ?_
  refine aw_seq ?_
  refine aw_region (.cons (.plain rfl (c_assign rfl rfl (by decide) (.const rfl))) trivial rfl <| .nil) ?_
  show AW _ _ _ _ _
  refine aw_seq ?_
  obtain ⟨v1, hv1, h⟩ := bind_some h
  refine aw_region (.cons (.plain rfl (c_move rfl rfl (by decide) .tmp)) ⟨rfl, trivial⟩ rfl <| .cons (.plain rfl (c_move rfl rfl (by decide) .tmp)) ⟨rfl, trivial⟩ rfl <| .cons (.plain rfl (c_call (ins := [.one (.t (.v (.int .i64 p1)))]) (caps := []) rfl rfl rfl (by decide) .clo (bits_bit_calls _ _ hv1) (.cons .tmp .nil) rfl rfl)) ⟨rfl, trivial⟩ rfl <| .cons (.plain rfl (c_and rfl rfl (by decide) .tmp .tmp)) ⟨rfl, rfl, trivial⟩ rfl <| .cons (.plain rfl (c_neq rfl rfl (by decide) .tmp (.const rfl))) ⟨rfl, trivial⟩ rfl <| .cons (.plain rfl (c_assign rfl rfl (by decide) .tmp)) ⟨rfl, trivial⟩ rfl <| .nil) ?_
  show AW _ _ _ _ _
  refine aw_goes (σ' := [(.tmp 4, .m (.one (.t (.v (.bool (!decide (bitsAnd .u64 p0 v1 = 0)))))))]) (Goes.into [] ⟨rfl, rfl, .refl, trivial⟩) ?_
  refine aw_ret ?_
  obtain rfl := Option.some.inj h
  exact ⟨.inr rfl, _, [], (.tmp rfl .nil), rfl, rfl, rfl, ⟨rfl, rfl, trivial⟩⟩

def topo_level_L1 (p0 : List (Int × Int)) (p1 : Int) (v13 : ((List (Int)) × Int)) : Option (((List (Int)) × Int) ⊕ List (Int)) := bif decide (v13.2 < (p0.length : Int)) then ((at_ p0 v13.2).bind fun v17 => bif decide (v17.2 = p1) then (app_ v13.1 [v13.2]).bind fun v18 => some v18 else some v13.1 : Option (List (Int))).bind fun v19 => some (.inl ((v19, wi64 (v13.2 + 1)))) else some (.inr v13.1)
def topo_level (p0 : List (Int × Int)) (p1 : Int) : Option (List (Int)) := (loopO (topo_level_L1 p0 p1) fuel ((([] : List (Int)), 0))).bind fun v14 => some v14
theorem topo_level_calls (p0 : List (Int × Int)) (p1 : Int) (r : List (Int)) (h : topo_level p0 p1 = some r) : ACalls Try.prog 88 [.one (.t (.sl (p0.map e57))), .one (.t (.v (.int .i64 p1)))] [] (.one (.t (.sl (r.map e3)))) [] := by
  unfold topo_level at h
  refine acalls_of_AW Try.func88 rfl Try.call88 (by decide) (show 2 ≤ 25 by decide) rfl rfl ?_
  refine aw_seq ?_
  refine aw_region (.cons (.plain rfl (c_assign rfl rfl (by decide) .nilT)) trivial rfl <| .nil) ?_
  show AW _ _ _ _ _
  refine aw_seq ?_
  refine aw_region (.cons (.plain rfl (c_assign rfl rfl (by decide) (.const rfl))) trivial rfl <| .nil) ?_
  show AW _ _ _ _ _
  refine aw_seq ?_
  refine aw_seq ?_
  refine aw_region (.cons (.plain rfl (c_move rfl rfl (by decide) .tmp)) ⟨rfl, trivial⟩ rfl <| .cons (.plain rfl (k_len (i := Try.t57) (l := p0) (f := e57) (fun _ => rfl) (by decide) rfl rfl (by decide) Try.underlying22 (src_tree (f := e57) (fun _ => rfl) (by decide) .tmp))) ⟨rfl, trivial⟩ rfl <| .cons (.plain rfl (c_move rfl rfl (by decide) (.const rfl))) trivial rfl <| .nil) ?_
  show AW _ _ _ _ _
  refine aw_loop0 (fun v13 : ((List (Int)) × Int) => [(.tmp 0, .m (.one (.t (.sl (p0.map e57))))), (.tmp 1, .m (.one (.t (.v (.int .i64 p1))))), (.tmp 5, .m (.one (.row 500004))), (.tmp 8, .m (.one (.t (.v (.int .i64 ((p0.length : Int))))))), (.tmp 9, .m (.one (.t (.v (.int .i64 v13.2))))), (.row 500004, .r 3 1 (v13.1.map e3))]) (fun v14 : List (Int) => [(.tmp 5, .m (.one (.row 500007))), (.row 500007, .r 3 1 (v14.map e3))]) h (Goes.trans (Goes.nilRow (t := 5) (n := 500010) 3 1 (by decide) rfl (by decide) rfl) (Goes.into [(500004, 500010)] ⟨rfl, rfl, .refl, .refl, .refl, .refl, .refl, .refl, trivial⟩)) (fun v13 _ h => ?_) (fun v14 h => ?_)
  · unfold topo_level_L1 at h
    refine aw_seq ?_
    refine aw_region (.cons (.plain rfl (c_lss rfl rfl (by decide) .tmp .tmp)) ⟨rfl, rfl, trivial⟩ rfl <| .nil) ?_
    show AW _ _ _ _ _
    refine aw_seq ?_
    refine aw_cond .tmp ⟨rfl, trivial⟩ (fun hc7 => ?_) (fun hc7 => ?_)
    · have h := of_true hc7 h
      refine aw_skip ?_
      show AW _ _ _ _ _
      refine aw_seq ?_
      refine aw_cut0 (fun v19 : List (Int) => [(.tmp 0, .m (.one (.t (.sl (p0.map e57))))), (.tmp 1, .m (.one (.t (.v (.int .i64 p1))))), (.tmp 5, .m (.one (.row 500008))), (.tmp 8, .m (.one (.t (.v (.int .i64 ((p0.length : Int))))))), (.tmp 9, .m (.one (.t (.v (.int .i64 v13.2))))), (.row 500008, .r 3 1 (v19.map e3))]) h (fun _ h => ?_) (fun v19 h => ?_)
      · refine aw_block ?_
        refine aw_seq ?_
        refine aw_region (.cons (.plain rfl (c_move rfl rfl (by decide) .tmp)) ⟨rfl, trivial⟩ rfl <| .cons (.plain rfl (c_assign rfl rfl (by decide) .tmp)) ⟨rfl, trivial⟩ rfl <| .nil) ?_
        show AW _ _ _ _ _
        refine aw_seq ?_
        obtain ⟨v17, hv17, h⟩ := bind_some h
        refine aw_region (.cons (.plain rfl (c_move rfl rfl (by decide) .tmp)) ⟨rfl, trivial⟩ rfl <| .cons (.plain rfl (c_move rfl rfl (by decide) .tmp)) ⟨rfl, trivial⟩ rfl <| .cons (.plain rfl (k_index (f := e57) (i := Try.t57) hv17 rfl rfl rfl (by decide) Try.underlying22 i57 .tmp .tmp)) ⟨rfl, rfl, trivial⟩ rfl <| .cons (.plain rfl (k_fieldT 3 1 rfl rfl (by decide) Try.underlying57 rfl i3 (by decide) .tmp)) ⟨rfl, trivial⟩ rfl <| .cons (.plain rfl (c_loadTree rfl rfl (by decide) Try.isAgg3 .tmp rfl)) ⟨rfl, trivial⟩ rfl <| .cons (.plain rfl (c_move rfl rfl (by decide) .tmp)) ⟨rfl, trivial⟩ rfl <| .cons (.plain rfl (c_eql rfl rfl (by decide) .tmp .tmp)) ⟨rfl, rfl, trivial⟩ rfl <| .nil) ?_
        show AW _ _ _ _ _
        refine aw_cond .tmp ⟨rfl, trivial⟩ (fun hc9 => ?_) (fun hc9 => ?_)
        · have h := of_true hc9 h
          obtain ⟨v18, hv18, h⟩ := bind_some h
          refine aw_region (.cons (.plain rfl (c_move rfl rfl (by decide) .tmp)) ⟨rfl, trivial⟩ rfl <| .cons (.plain rfl (c_move rfl rfl (by decide) .tmp)) ⟨rfl, trivial⟩ rfl <| .cons (.plain rfl (.frozen (by simp) (c_buildSlice (sz := 1) (es := [v13.2].map e3) rfl rfl (by decide) Try.underlying42 i3 rfl rfl rfl rfl (by decide) (.c1 .tmp .nil) rfl (emb_len (f := e3) (n := 1) (fun _ => rfl) _) (by decide)))) ⟨rfl, trivial⟩ rfl <| .cons (.plain rfl (k_appendRow (f := e3) hv18 (by decide) (by decide) rfl rfl (by decide) Try.underlying42 i3 rfl rfl rfl rfl (by decide) .tmp (src_tree (f := e3) (fun _ => rfl) (by decide) .tmp))) ⟨rfl, rfl, rfl, trivial⟩ rfl <| .cons (.plain rfl (c_assign rfl rfl (by decide) .tmp)) ⟨rfl, trivial⟩ rfl <| .nil) ?_
          obtain rfl := Option.some.inj h
          show Goes _ _
          exact (Goes.into [(500008, 22)] ⟨rfl, rfl, .refl, .refl, .refl, .refl, .refl, .refl, trivial⟩)
        · have h := of_false hc9 h
          refine aw_skip ?_
          obtain rfl := Option.some.inj h
          show Goes _ _
          exact (Goes.into [(500008, 500004)] ⟨rfl, rfl, .refl, .refl, .refl, .refl, .refl, .refl, trivial⟩)
      · show AW _ _ _ _ _
        refine aw_region (.cons (.plain rfl (c_add rfl rfl (by decide) .tmp (.const rfl))) ⟨rfl, trivial⟩ rfl <| .cons (.plain rfl (c_move rfl rfl (by decide) .tmp)) ⟨rfl, trivial⟩ rfl <| .nil) ?_
        obtain rfl := Option.some.inj h
        exact ⟨_, rfl, (Goes.into [(500004, 500008)] ⟨rfl, rfl, .refl, .refl, .refl, .refl, .refl, .refl, trivial⟩)⟩
    · have h := of_false hc7 h
      refine aw_exit ?_
      obtain rfl := Option.some.inj h
      exact ⟨rfl, _, rfl, (Goes.into [(500007, 500004)] ⟨rfl, rfl, .refl, .refl, trivial⟩)⟩
  · show AW _ _ _ _ _
    refine aw_seq ?_
    refine aw_region (.cons (.plain rfl (c_move rfl rfl (by decide) .tmp)) ⟨rfl, trivial⟩ rfl <| .cons (.plain rfl (c_assign rfl rfl (by decide) .tmp)) ⟨rfl, trivial⟩ rfl <| .nil) ?_
    show AW _ _ _ _ _
    refine aw_goes (σ' := [(.tmp 4, .m (.one (.t (.sl (v14.map e3)))))]) (Goes.trans (Goes.freezeRow (n := 500007) rfl) (Goes.into [] ⟨rfl, rfl, .refl, trivial⟩)) ?_
    refine aw_ret ?_
    obtain rfl := Option.some.inj h
    exact ⟨.inr rfl, _, [], (.tmp rfl .nil), rfl, rfl, rfl, ⟨rfl, rfl, trivial⟩⟩

def topo_Procs (p0 : List (Int × Int)) : Option (List (Int)) := (topo_level p0 3).bind fun v1 => some v1
theorem topo_Procs_calls (p0 : List (Int × Int)) (r : List (Int)) (h : topo_Procs p0 = some r) : ACalls Try.prog 74 [.one (.t (.sl (p0.map e57)))] [] (.one (.t (.sl (r.map e3)))) [] := by
  unfold topo_Procs at h
  refine acalls_of_AW Try.func74 rfl Try.call74 (by decide) (show 1 ≤ 5 by decide) rfl rfl ?_
  refine aw_seq ?_
  refine aw_region (.cons (.plain rfl (c_assign rfl rfl (by decide) .nilT)) trivial rfl <| .nil) ?_
  show AW _ _ _ _ _
  refine aw_seq ?_
  obtain ⟨v1, hv1, h⟩ := bind_some h
  refine aw_region (.cons (.plain rfl (c_move rfl rfl (by decide) .tmp)) ⟨rfl, trivial⟩ rfl <| .cons (.plain rfl (c_call (ins := [.one (.t (.sl (p0.map e57))), .one (.t (.v (.int .i64 3)))]) (caps := []) rfl rfl rfl (by decide) .clo (topo_level_calls _ _ _ hv1) (.cons .tmp (.cons (.const rfl) .nil)) rfl rfl)) ⟨rfl, trivial⟩ rfl <| .cons (.plain rfl (c_assign rfl rfl (by decide) .tmp)) ⟨rfl, trivial⟩ rfl <| .nil) ?_
  show AW _ _ _ _ _
  refine aw_goes (σ' := [(.tmp 2, .m (.one (.t (.sl (v1.map e3)))))]) (Goes.into [] ⟨rfl, rfl, .refl, trivial⟩) ?_
  refine aw_ret ?_
  obtain rfl := Option.some.inj h
  exact ⟨.inr rfl, _, [], (.tmp rfl .nil), rfl, rfl, rfl, ⟨rfl, rfl, trivial⟩⟩

def topo_Kids_L1 (p0 : List (Int × Int)) (p1 : Int) (v13 : ((List (Int)) × Int)) : Option (((List (Int)) × Int) ⊕ List (Int)) := bif decide (v13.2 < (p0.length : Int)) then ((at_ p0 v13.2).bind fun v17 => bif decide (v17.1 = p1) then (app_ v13.1 [v13.2]).bind fun v18 => some v18 else some v13.1 : Option (List (Int))).bind fun v19 => some (.inl ((v19, wi64 (v13.2 + 1)))) else some (.inr v13.1)
def topo_Kids (p0 : List (Int × Int)) (p1 : Int) : Option (List (Int)) := (loopO (topo_Kids_L1 p0 p1) fuel ((([] : List (Int)), 0))).bind fun v14 => some v14
theorem topo_Kids_calls (p0 : List (Int × Int)) (p1 : Int) (r : List (Int)) (h : topo_Kids p0 p1 = some r) : ACalls Try.prog 92 [.one (.t (.sl (p0.map e57))), .one (.t (.v (.int .i64 p1)))] [] (.one (.t (.sl (r.map e3)))) [] := by
  unfold topo_Kids at h
  refine acalls_of_AW Try.func92 rfl Try.call92 (by decide) (show 2 ≤ 25 by decide) rfl rfl ?_
  refine aw_seq ?_
  refine aw_region (.cons (.plain rfl (c_assign rfl rfl (by decide) .nilT)) trivial rfl <| .nil) ?_
  show AW _ _ _ _ _
  refine aw_seq ?_
  refine aw_region (.cons (.plain rfl (c_assign rfl rfl (by decide) (.const rfl))) trivial rfl <| .nil) ?_
  show AW _ _ _ _ _
  refine aw_seq ?_
  refine aw_seq ?_
  refine aw_region (.cons (.plain rfl (c_move rfl rfl (by decide) .tmp)) ⟨rfl, trivial⟩ rfl <| .cons (.plain rfl (k_len (i := Try.t57) (l := p0) (f := e57) (fun _ => rfl) (by decide) rfl rfl (by decide) Try.underlying22 (src_tree (f := e57) (fun _ => rfl) (by decide) .tmp))) ⟨rfl, trivial⟩ rfl <| .cons (.plain rfl (c_move rfl rfl (by decide) (.const rfl))) trivial rfl <| .nil) ?_
  show AW _ _ _ _ _
  refine aw_loop0 (fun v13 : ((List (Int)) × Int) => [(.tmp 0, .m (.one (.t (.sl (p0.map e57))))), (.tmp 1, .m (.one (.t (.v (.int .i64 p1))))), (.tmp 5, .m (.one (.row 500004))), (.tmp 8, .m (.one (.t (.v (.int .i64 ((p0.length : Int))))))), (.tmp 9, .m (.one (.t (.v (.int .i64 v13.2))))), (.row 500004, .r 3 1 (v13.1.map e3))]) (fun v14 : List (Int) => [(.tmp 5, .m (.one (.row 500007))), (.row 500007, .r 3 1 (v14.map e3))]) h (Goes.trans (Goes.nilRow (t := 5) (n := 500010) 3 1 (by decide) rfl (by decide) rfl) (Goes.into [(500004, 500010)] ⟨rfl, rfl, .refl, .refl, .refl, .refl, .refl, .refl, trivial⟩)) (fun v13 _ h => ?_) (fun v14 h => ?_)
  · unfold topo_Kids_L1 at h
    refine aw_seq ?_
    refine aw_region (.cons (.plain rfl (c_lss rfl rfl (by decide) .tmp .tmp)) ⟨rfl, rfl, trivial⟩ rfl <| .nil) ?_
    show AW _ _ _ _ _
    refine aw_seq ?_
    refine aw_cond .tmp ⟨rfl, trivial⟩ (fun hc7 => ?_) (fun hc7 => ?_)
    · have h := of_true hc7 h
      refine aw_skip ?_
      show AW _ _ _ _ _
      refine aw_seq ?_
      refine aw_cut0 (fun v19 : List (Int) => [(.tmp 0, .m (.one (.t (.sl (p0.map e57))))), (.tmp 1, .m (.one (.t (.v (.int .i64 p1))))), (.tmp 5, .m (.one (.row 500008))), (.tmp 8, .m (.one (.t (.v (.int .i64 ((p0.length : Int))))))), (.tmp 9, .m (.one (.t (.v (.int .i64 v13.2))))), (.row 500008, .r 3 1 (v19.map e3))]) h (fun _ h => ?_) (fun v19 h => ?_)
      · refine aw_block ?_
        refine aw_seq ?_
        refine aw_region (.cons (.plain rfl (c_move rfl rfl (by decide) .tmp)) ⟨rfl, trivial⟩ rfl <| .cons (.plain rfl (c_assign rfl rfl (by decide) .tmp)) ⟨rfl, trivial⟩ rfl <| .nil) ?_
        show AW _ _ _ _ _
        refine aw_seq ?_
        obtain ⟨v17, hv17, h⟩ := bind_some h
        refine aw_region (.cons (.plain rfl (c_move rfl rfl (by decide) .tmp)) ⟨rfl, trivial⟩ rfl <| .cons (.plain rfl (c_move rfl rfl (by decide) .tmp)) ⟨rfl, trivial⟩ rfl <| .cons (.plain rfl (k_index (f := e57) (i := Try.t57) hv17 rfl rfl rfl (by decide) Try.underlying22 i57 .tmp .tmp)) ⟨rfl, rfl, trivial⟩ rfl <| .cons (.plain rfl (k_fieldT 3 0 rfl rfl (by decide) Try.underlying57 rfl i3 (by decide) .tmp)) ⟨rfl, trivial⟩ rfl <| .cons (.plain rfl (c_loadTree rfl rfl (by decide) Try.isAgg3 .tmp rfl)) ⟨rfl, trivial⟩ rfl <| .cons (.plain rfl (c_move rfl rfl (by decide) .tmp)) ⟨rfl, trivial⟩ rfl <| .cons (.plain rfl (c_eql rfl rfl (by decide) .tmp .tmp)) ⟨rfl, rfl, trivial⟩ rfl <| .nil) ?_
        show AW _ _ _ _ _
        refine aw_cond .tmp ⟨rfl, trivial⟩ (fun hc9 => ?_) (fun hc9 => ?_)
        · have h := of_true hc9 h
          obtain ⟨v18, hv18, h⟩ := bind_some h
          refine aw_region (.cons (.plain rfl (c_move rfl rfl (by decide) .tmp)) ⟨rfl, trivial⟩ rfl <| .cons (.plain rfl (c_move rfl rfl (by decide) .tmp)) ⟨rfl, trivial⟩ rfl <| .cons (.plain rfl (.frozen (by simp) (c_buildSlice (sz := 1) (es := [v13.2].map e3) rfl rfl (by decide) Try.underlying42 i3 rfl rfl rfl rfl (by decide) (.c1 .tmp .nil) rfl (emb_len (f := e3) (n := 1) (fun _ => rfl) _) (by decide)))) ⟨rfl, trivial⟩ rfl <| .cons (.plain rfl (k_appendRow (f := e3) hv18 (by decide) (by decide) rfl rfl (by decide) Try.underlying42 i3 rfl rfl rfl rfl (by decide) .tmp (src_tree (f := e3) (fun _ => rfl) (by decide) .tmp))) ⟨rfl, rfl, rfl, trivial⟩ rfl <| .cons (.plain rfl (c_assign rfl rfl (by decide) .tmp)) ⟨rfl, trivial⟩ rfl <| .nil) ?_
          obtain rfl := Option.some.inj h
          show Goes _ _
          exact (Goes.into [(500008, 22)] ⟨rfl, rfl, .refl, .refl, .refl, .refl, .refl, .refl, trivial⟩)
        · have h := of_false hc9 h
          refine aw_skip ?_
          obtain rfl := Option.some.inj h
          show Goes _ _
          exact (Goes.into [(500008, 500004)] ⟨rfl, rfl, .refl, .refl, .refl, .refl, .refl, .refl, trivial⟩)
      · show AW _ _ _ _ _
        refine aw_region (.cons (.plain rfl (c_add rfl rfl (by decide) .tmp (.const rfl))) ⟨rfl, trivial⟩ rfl <| .cons (.plain rfl (c_move rfl rfl (by decide) .tmp)) ⟨rfl, trivial⟩ rfl <| .nil) ?_
        obtain rfl := Option.some.inj h
        exact ⟨_, rfl, (Goes.into [(500004, 500008)] ⟨rfl, rfl, .refl, .refl, .refl, .refl, .refl, .refl, trivial⟩)⟩
    · have h := of_false hc7 h
      refine aw_exit ?_
      obtain rfl := Option.some.inj h
      exact ⟨rfl, _, rfl, (Goes.into [(500007, 500004)] ⟨rfl, rfl, .refl, .refl, trivial⟩)⟩
  · show AW _ _ _ _ _
    refine aw_seq ?_
    refine aw_region (.cons (.plain rfl (c_move rfl rfl (by decide) .tmp)) ⟨rfl, trivial⟩ rfl <| .cons (.plain rfl (c_assign rfl rfl (by decide) .tmp)) ⟨rfl, trivial⟩ rfl <| .nil) ?_
    show AW _ _ _ _ _
    refine aw_goes (σ' := [(.tmp 4, .m (.one (.t (.sl (v14.map e3)))))]) (Goes.trans (Goes.freezeRow (n := 500007) rfl) (Goes.into [] ⟨rfl, rfl, .refl, trivial⟩)) ?_
    refine aw_ret ?_
    obtain rfl := Option.some.inj h
    exact ⟨.inr rfl, _, [], (.tmp rfl .nil), rfl, rfl, rfl, ⟨rfl, rfl, trivial⟩⟩

def topo_below (p0 : List (Int × Int)) (p1 : Int) : Option Bool := (at_ p0 p1).bind fun v1 => bif decide (p1 = 0) then (bif decide (v1.1 = (-1)) then some (decide (v1.2 = 0)) else some false : Option Bool).bind fun v2 => some v2 else (bif decide (0 ≤ v1.1) then bif decide (v1.1 < p1) then (at_ p0 v1.1).bind fun v4 => bif decide (v1.2 = wi64 (v4.2 + 1)) then some (decide (v1.2 ≤ 3)) else some false else some false else some false : Option Bool).bind fun v5 => some v5
theorem topo_below_calls (p0 : List (Int × Int)) (p1 : Int) (r : Bool) (h : topo_below p0 p1 = some r) : ACalls Try.prog 93 [.one (.t (.sl (p0.map e57))), .one (.t (.v (.int .i64 p1)))] [] (.one (.t (.v (.bool r)))) [] := by
  unfold topo_below at h
  refine acalls_of_AW Try.func93 rfl Try.call93 (by decide) (show 2 ≤ 46 by decide) rfl rfl ?_
  refine aw_seq ?_
  refine aw_region (.cons (.plain rfl (c_assign rfl rfl (by decide) (.const rfl))) trivial rfl <| .nil) ?_
  show AW _ _ _ _ _
  refine aw_seq ?_
  obtain ⟨v1, hv1, h⟩ := bind_some h
  refine aw_region (.cons (.plain rfl (c_move rfl rfl (by decide) .tmp)) ⟨rfl, trivial⟩ rfl <| .cons (.plain rfl (c_move rfl rfl (by decide) .tmp)) ⟨rfl, trivial⟩ rfl <| .cons (.plain rfl (k_index (f := e57) (i := Try.t57) hv1 rfl rfl rfl (by decide) Try.underlying22 i57 .tmp .tmp)) ⟨rfl, rfl, trivial⟩ rfl <| .cons (.plain rfl (c_loadTrees (cs := [.v (.int .i64 v1.1), .v (.int .i64 v1.2)]) rfl rfl (by decide) Try.isAgg57 i57 rfl (show 0 + 2 ≤ 2 by decide) .tmp)) ⟨rfl, trivial⟩ rfl <| .cons (.plain rfl (c_alloc rfl rfl (by decide) i57 rfl rfl rfl)) trivial rfl <| .cons (.plain rfl (c_storeBox (cs0 := [.t (.v (.int .i64 0)), .t (.v (.int .i64 0))]) (cs := [.t (.v (.int .i64 v1.1)), .t (.v (.int .i64 v1.2))]) rfl rfl i57 rfl rfl .tmp .tmp)) ⟨rfl, rfl, rfl, rfl, trivial⟩ rfl <| .nil) ?_
  show AW _ _ _ _ _
  refine aw_seq ?_
  refine aw_seq ?_
  refine aw_region (.cons (.plain rfl (c_move rfl rfl (by decide) .tmp)) ⟨rfl, trivial⟩ rfl <| .cons (.plain rfl (c_eql rfl rfl (by decide) .tmp (.const rfl))) ⟨rfl, trivial⟩ rfl <| .nil) ?_
  show AW _ _ _ _ _
  refine aw_cond .tmp ⟨rfl, trivial⟩ (fun hc1 => ?_) (fun hc1 => ?_)
  · have h := of_true hc1 h
    refine aw_seq ?_
    refine aw_cut0 (fun v2 : Bool => [(.tmp 4, .m (.one (.t (.v (.bool v2)))))]) h (fun _ h => ?_) (fun v2 h => ?_)
    · cases hc3 : decide (v1.1 = (-1)) with
      | true =>
        have h := of_true hc3 h
        refine aw_region (.cons (.plain rfl (k_fieldP 3 0 rfl rfl (by decide) Try.underlying57 rfl i3 (by decide) .tmp)) ⟨rfl, trivial⟩ rfl <| .cons (.plain rfl (c_loadCell rfl rfl (by decide) Try.isAgg3 .tmp)) ⟨rfl, rfl, trivial⟩ rfl <| .cons (.plain rfl (c_eql rfl rfl (by decide) .tmp (.const rfl))) ⟨rfl, trivial⟩ rfl <| .cons (.plain rfl (c_move rfl rfl (by decide) .tmp)) ⟨rfl, trivial⟩ rfl <| .cons (.on (t := 15) rfl rfl (k_fieldP 3 1 rfl rfl (by decide) Try.underlying57 rfl i3 (by decide) .tmp)) ⟨(congrArg mB hc3), rfl, trivial⟩ rfl <| .cons (.on (t := 15) rfl rfl (c_loadCell rfl rfl (by decide) Try.isAgg3 .tmp)) ⟨(congrArg mB hc3), rfl, rfl, trivial⟩ rfl <| .cons (.on (t := 15) rfl rfl (c_eql rfl rfl (by decide) .tmp (.const rfl))) ⟨(congrArg mB hc3), rfl, trivial⟩ rfl <| .cons (.plain rfl (c_pick (b := true) rfl rfl (by decide) .tmp rfl .tmp)) ⟨(congrArg mB hc3), rfl, trivial⟩ rfl <| .cons (.plain rfl (c_assign rfl rfl (by decide) .tmp)) ⟨rfl, trivial⟩ rfl <| .nil) ?_
        obtain rfl := Option.some.inj h
        show Goes _ _
        exact (Goes.into [] ⟨rfl, rfl, .refl, trivial⟩)
      | false =>
        have h := of_false hc3 h
        refine aw_region (.cons (.plain rfl (k_fieldP 3 0 rfl rfl (by decide) Try.underlying57 rfl i3 (by decide) .tmp)) ⟨rfl, trivial⟩ rfl <| .cons (.plain rfl (c_loadCell rfl rfl (by decide) Try.isAgg3 .tmp)) ⟨rfl, rfl, trivial⟩ rfl <| .cons (.plain rfl (c_eql rfl rfl (by decide) .tmp (.const rfl))) ⟨rfl, trivial⟩ rfl <| .cons (.plain rfl (c_move rfl rfl (by decide) .tmp)) ⟨rfl, trivial⟩ rfl <| .cons (.off (b' := false) rfl rfl rfl rfl (by decide)) ⟨(congrArg mB hc3), trivial⟩ rfl <| .cons (.off (b' := false) rfl rfl rfl rfl (by decide)) ⟨(congrArg mB hc3), trivial⟩ rfl <| .cons (.off (b' := false) rfl rfl rfl rfl (by decide)) ⟨(congrArg mB hc3), trivial⟩ rfl <| .cons (.plain rfl (c_pick (b := false) rfl rfl (by decide) .tmp rfl (.const rfl))) ⟨(congrArg mB hc3), trivial⟩ rfl <| .cons (.plain rfl (c_assign rfl rfl (by decide) .tmp)) ⟨rfl, trivial⟩ rfl <| .nil) ?_
        obtain rfl := Option.some.inj h
        show Goes _ _
        exact (Goes.into [] ⟨rfl, rfl, .refl, trivial⟩)
    · show AW _ _ _ _ _
      refine aw_goes (σ' := [(.tmp 4, .m (.one (.t (.v (.bool v2)))))]) (Goes.into [] ⟨rfl, rfl, .refl, trivial⟩) ?_
      refine aw_ret ?_
      obtain rfl := Option.some.inj h
      exact ⟨.inr rfl, _, [], (.tmp rfl .nil), rfl, rfl, rfl, ⟨rfl, rfl, trivial⟩⟩
  · have h := of_false hc1 h
    refine aw_skip ?_
    show AW _ _ _ _ _
    refine aw_seq ?_
    refine aw_cut0 (fun v5 : Bool => [(.tmp 4, .m (.one (.t (.v (.bool v5)))))]) h (fun _ h => ?_) (fun v5 h => ?_)
    · cases hc7 : decide (0 ≤ v1.1) with
      | true =>
        have h := of_true hc7 h
        cases hc8 : decide (v1.1 < p1) with
        | true =>
          have h := of_true hc8 h
          obtain ⟨v4, hv4, h⟩ := bind_some h
          cases hc9 : decide (v1.2 = wi64 (v4.2 + 1)) with
          | true =>
            have h := of_true hc9 h
            refine aw_region_draw mixed (.cons (.plain rfl (k_fieldP 3 0 rfl rfl (by decide) Try.underlying57 rfl i3 (by decide) .tmp)) ⟨rfl, trivial⟩ rfl <| .cons (.plain rfl (c_loadCell rfl rfl (by decide) Try.isAgg3 .tmp)) ⟨rfl, rfl, trivial⟩ rfl <| .cons (.plain rfl (c_geq rfl rfl (by decide) .tmp (.const rfl))) ⟨rfl, trivial⟩ rfl <| .cons (.plain rfl (c_move rfl rfl (by decide) .tmp)) ⟨rfl, trivial⟩ rfl <| .cons (.on (t := 23) rfl rfl (k_fieldP 3 0 rfl rfl (by decide) Try.underlying57 rfl i3 (by decide) .tmp)) ⟨(congrArg mB hc7), rfl, trivial⟩ rfl <| .cons (.on (t := 23) rfl rfl (c_loadCell rfl rfl (by decide) Try.isAgg3 .tmp)) ⟨(congrArg mB hc7), rfl, rfl, trivial⟩ rfl <| .cons (.on (t := 23) rfl rfl (c_move rfl rfl (by decide) .tmp)) ⟨(congrArg mB hc7), rfl, trivial⟩ rfl <| .cons (.on (t := 23) rfl rfl (c_lss rfl rfl (by decide) .tmp .tmp)) ⟨(congrArg mB hc7), rfl, rfl, trivial⟩ rfl <| .cons (.plain rfl (c_pick (b := true) rfl rfl (by decide) .tmp rfl .tmp)) ⟨(congrArg mB hc7), rfl, trivial⟩ rfl <| .cons (.plain rfl (c_move rfl rfl (by decide) .tmp)) ⟨rfl, trivial⟩ rfl <| .cons (.on (t := 29) rfl rfl (k_fieldP 3 1 rfl rfl (by decide) Try.underlying57 rfl i3 (by decide) .tmp)) ⟨(congrArg mB hc8), rfl, trivial⟩ rfl <| .cons (.on (t := 29) rfl rfl (c_loadCell rfl rfl (by decide) Try.isAgg3 .tmp)) ⟨(congrArg mB hc8), rfl, rfl, trivial⟩ rfl <| .cons (.on (t := 29) rfl rfl (c_move rfl rfl (by decide) .tmp)) ⟨(congrArg mB hc8), rfl, trivial⟩ rfl <| .cons (.on (t := 29) rfl rfl (k_fieldP 3 0 rfl rfl (by decide) Try.underlying57 rfl i3 (by decide) .tmp)) ⟨(congrArg mB hc8), rfl, trivial⟩ rfl <| .cons (.on (t := 29) rfl rfl (c_loadCell rfl rfl (by decide) Try.isAgg3 .tmp)) ⟨(congrArg mB hc8), rfl, rfl, trivial⟩ rfl <| .cons (.on (t := 29) rfl rfl (k_index (f := e57) (i := Try.t57) hv4 rfl rfl rfl (by decide) Try.underlying22 i57 .tmp .tmp)) ⟨(congrArg mB hc8), rfl, rfl, trivial⟩ rfl <| .cons (.on (t := 29) rfl rfl (k_fieldT 3 1 rfl rfl (by decide) Try.underlying57 rfl i3 (by decide) .tmp)) ⟨(congrArg mB hc8), rfl, trivial⟩ rfl <| .cons (.on (t := 29) rfl rfl (c_loadTree rfl rfl (by decide) Try.isAgg3 .tmp rfl)) ⟨(congrArg mB hc8), rfl, trivial⟩ rfl <| .cons (.on (t := 29) rfl rfl (c_add rfl rfl (by decide) .tmp (.const rfl))) ⟨(congrArg mB hc8), rfl, trivial⟩ rfl <| .cons (.on (t := 29) rfl rfl (c_eql rfl rfl (by decide) .tmp .tmp)) ⟨(congrArg mB hc8), rfl, rfl, trivial⟩ rfl <| .cons (.plain rfl (c_pick (b := true) rfl rfl (by decide) .tmp rfl .tmp)) ⟨(congrArg mB hc8), rfl, trivial⟩ rfl <| .cons (.plain rfl (c_move rfl rfl (by decide) .tmp)) ⟨rfl, trivial⟩ rfl <| .cons (.on (t := 41) rfl rfl (k_fieldP 3 1 rfl rfl (by decide) Try.underlying57 rfl i3 (by decide) .tmp)) ⟨(congrArg mB hc9), rfl, trivial⟩ rfl <| .cons (.on (t := 41) rfl rfl (c_loadCell rfl rfl (by decide) Try.isAgg3 .tmp)) ⟨(congrArg mB hc9), rfl, rfl, trivial⟩ rfl <| .cons (.on (t := 41) rfl rfl (c_leq rfl rfl (by decide) .tmp (.const rfl))) ⟨(congrArg mB hc9), rfl, trivial⟩ rfl <| .cons (.plain rfl (c_pick (b := true) rfl rfl (by decide) .tmp rfl .tmp)) ⟨(congrArg mB hc9), rfl, trivial⟩ rfl <| .cons (.plain rfl (c_assign rfl rfl (by decide) .tmp)) ⟨rfl, trivial⟩ rfl <| .nil) rfl rfl ?_
            obtain rfl := Option.some.inj h
            show Goes _ _
            exact (Goes.into [] ⟨rfl, rfl, .refl, trivial⟩)
          | false =>
            have h := of_false hc9 h
            refine aw_region_draw mixed (.cons (.plain rfl (k_fieldP 3 0 rfl rfl (by decide) Try.underlying57 rfl i3 (by decide) .tmp)) ⟨rfl, trivial⟩ rfl <| .cons (.plain rfl (c_loadCell rfl rfl (by decide) Try.isAgg3 .tmp)) ⟨rfl, rfl, trivial⟩ rfl <| .cons (.plain rfl (c_geq rfl rfl (by decide) .tmp (.const rfl))) ⟨rfl, trivial⟩ rfl <| .cons (.plain rfl (c_move rfl rfl (by decide) .tmp)) ⟨rfl, trivial⟩ rfl <| .cons (.on (t := 23) rfl rfl (k_fieldP 3 0 rfl rfl (by decide) Try.underlying57 rfl i3 (by decide) .tmp)) ⟨(congrArg mB hc7), rfl, trivial⟩ rfl <| .cons (.on (t := 23) rfl rfl (c_loadCell rfl rfl (by decide) Try.isAgg3 .tmp)) ⟨(congrArg mB hc7), rfl, rfl, trivial⟩ rfl <| .cons (.on (t := 23) rfl rfl (c_move rfl rfl (by decide) .tmp)) ⟨(congrArg mB hc7), rfl, trivial⟩ rfl <| .cons (.on (t := 23) rfl rfl (c_lss rfl rfl (by decide) .tmp .tmp)) ⟨(congrArg mB hc7), rfl, rfl, trivial⟩ rfl <| .cons (.plain rfl (c_pick (b := true) rfl rfl (by decide) .tmp rfl .tmp)) ⟨(congrArg mB hc7), rfl, trivial⟩ rfl <| .cons (.plain rfl (c_move rfl rfl (by decide) .tmp)) ⟨rfl, trivial⟩ rfl <| .cons (.on (t := 29) rfl rfl (k_fieldP 3 1 rfl rfl (by decide) Try.underlying57 rfl i3 (by decide) .tmp)) ⟨(congrArg mB hc8), rfl, trivial⟩ rfl <| .cons (.on (t := 29) rfl rfl (c_loadCell rfl rfl (by decide) Try.isAgg3 .tmp)) ⟨(congrArg mB hc8), rfl, rfl, trivial⟩ rfl <| .cons (.on (t := 29) rfl rfl (c_move rfl rfl (by decide) .tmp)) ⟨(congrArg mB hc8), rfl, trivial⟩ rfl <| .cons (.on (t := 29) rfl rfl (k_fieldP 3 0 rfl rfl (by decide) Try.underlying57 rfl i3 (by decide) .tmp)) ⟨(congrArg mB hc8), rfl, trivial⟩ rfl <| .cons (.on (t := 29) rfl rfl (c_loadCell rfl rfl (by decide) Try.isAgg3 .tmp)) ⟨(congrArg mB hc8), rfl, rfl, trivial⟩ rfl <| .cons (.on (t := 29) rfl rfl (k_index (f := e57) (i := Try.t57) hv4 rfl rfl rfl (by decide) Try.underlying22 i57 .tmp .tmp)) ⟨(congrArg mB hc8), rfl, rfl, trivial⟩ rfl <| .cons (.on (t := 29) rfl rfl (k_fieldT 3 1 rfl rfl (by decide) Try.underlying57 rfl i3 (by decide) .tmp)) ⟨(congrArg mB hc8), rfl, trivial⟩ rfl <| .cons (.on (t := 29) rfl rfl (c_loadTree rfl rfl (by decide) Try.isAgg3 .tmp rfl)) ⟨(congrArg mB hc8), rfl, trivial⟩ rfl <| .cons (.on (t := 29) rfl rfl (c_add rfl rfl (by decide) .tmp (.const rfl))) ⟨(congrArg mB hc8), rfl, trivial⟩ rfl <| .cons (.on (t := 29) rfl rfl (c_eql rfl rfl (by decide) .tmp .tmp)) ⟨(congrArg mB hc8), rfl, rfl, trivial⟩ rfl <| .cons (.plain rfl (c_pick (b := true) rfl rfl (by decide) .tmp rfl .tmp)) ⟨(congrArg mB hc8), rfl, trivial⟩ rfl <| .cons (.plain rfl (c_move rfl rfl (by decide) .tmp)) ⟨rfl, trivial⟩ rfl <| .cons (.off (b' := false) rfl rfl rfl rfl (by decide)) ⟨(congrArg mB hc9), trivial⟩ rfl <| .cons (.off (b' := false) rfl rfl rfl rfl (by decide)) ⟨(congrArg mB hc9), trivial⟩ rfl <| .cons (.off (b' := false) rfl rfl rfl rfl (by decide)) ⟨(congrArg mB hc9), trivial⟩ rfl <| .cons (.plain rfl (c_pick (b := false) rfl rfl (by decide) .tmp rfl (.const rfl))) ⟨(congrArg mB hc9), trivial⟩ rfl <| .cons (.plain rfl (c_assign rfl rfl (by decide) .tmp)) ⟨rfl, trivial⟩ rfl <| .nil) rfl rfl ?_
            obtain rfl := Option.some.inj h
            show Goes _ _
            exact (Goes.into [] ⟨rfl, rfl, .refl, trivial⟩)
        | false =>
          have h := of_false hc8 h
          refine aw_region_draw mixed (.cons (.plain rfl (k_fieldP 3 0 rfl rfl (by decide) Try.underlying57 rfl i3 (by decide) .tmp)) ⟨rfl, trivial⟩ rfl <| .cons (.plain rfl (c_loadCell rfl rfl (by decide) Try.isAgg3 .tmp)) ⟨rfl, rfl, trivial⟩ rfl <| .cons (.plain rfl (c_geq rfl rfl (by decide) .tmp (.const rfl))) ⟨rfl, trivial⟩ rfl <| .cons (.plain rfl (c_move rfl rfl (by decide) .tmp)) ⟨rfl, trivial⟩ rfl <| .cons (.on (t := 23) rfl rfl (k_fieldP 3 0 rfl rfl (by decide) Try.underlying57 rfl i3 (by decide) .tmp)) ⟨(congrArg mB hc7), rfl, trivial⟩ rfl <| .cons (.on (t := 23) rfl rfl (c_loadCell rfl rfl (by decide) Try.isAgg3 .tmp)) ⟨(congrArg mB hc7), rfl, rfl, trivial⟩ rfl <| .cons (.on (t := 23) rfl rfl (c_move rfl rfl (by decide) .tmp)) ⟨(congrArg mB hc7), rfl, trivial⟩ rfl <| .cons (.on (t := 23) rfl rfl (c_lss rfl rfl (by decide) .tmp .tmp)) ⟨(congrArg mB hc7), rfl, rfl, trivial⟩ rfl <| .cons (.plain rfl (c_pick (b := true) rfl rfl (by decide) .tmp rfl .tmp)) ⟨(congrArg mB hc7), rfl, trivial⟩ rfl <| .cons (.plain rfl (c_move rfl rfl (by decide) .tmp)) ⟨rfl, trivial⟩ rfl <| .cons (.off (b' := false) rfl rfl rfl rfl (by decide)) ⟨(congrArg mB hc8), trivial⟩ rfl <| .cons (.off (b' := false) rfl rfl rfl rfl (by decide)) ⟨(congrArg mB hc8), trivial⟩ rfl <| .cons (.off (b' := false) rfl rfl rfl rfl (by decide)) ⟨(congrArg mB hc8), trivial⟩ rfl <| .cons (.off (b' := false) rfl rfl rfl rfl (by decide)) ⟨(congrArg mB hc8), trivial⟩ rfl <| .cons (.off (b' := false) rfl rfl rfl rfl (by decide)) ⟨(congrArg mB hc8), trivial⟩ rfl <| .cons (.off (b' := false) rfl rfl rfl rfl (by decide)) ⟨(congrArg mB hc8), trivial⟩ rfl <| .cons (.off (b' := false) rfl rfl rfl rfl (by decide)) ⟨(congrArg mB hc8), trivial⟩ rfl <| .cons (.off (b' := false) rfl rfl rfl rfl (by decide)) ⟨(congrArg mB hc8), trivial⟩ rfl <| .cons (.off (b' := false) rfl rfl rfl rfl (by decide)) ⟨(congrArg mB hc8), trivial⟩ rfl <| .cons (.off (b' := false) rfl rfl rfl rfl (by decide)) ⟨(congrArg mB hc8), trivial⟩ rfl <| .cons (.plain rfl (c_pick (b := false) rfl rfl (by decide) .tmp rfl (.const rfl))) ⟨(congrArg mB hc8), trivial⟩ rfl <| .cons (.plain rfl (c_move rfl rfl (by decide) .tmp)) ⟨rfl, trivial⟩ rfl <| .cons (.off (b' := false) rfl rfl rfl rfl (by decide)) ⟨rfl, trivial⟩ rfl <| .cons (.off (b' := false) rfl rfl rfl rfl (by decide)) ⟨rfl, trivial⟩ rfl <| .cons (.off (b' := false) rfl rfl rfl rfl (by decide)) ⟨rfl, trivial⟩ rfl <| .cons (.plain rfl (c_pick (b := false) rfl rfl (by decide) .tmp rfl (.const rfl))) ⟨rfl, trivial⟩ rfl <| .cons (.plain rfl (c_assign rfl rfl (by decide) .tmp)) ⟨rfl, trivial⟩ rfl <| .nil) rfl rfl ?_
          obtain rfl := Option.some.inj h
          show Goes _ _
          exact (Goes.into [] ⟨rfl, rfl, .refl, trivial⟩)
      | false =>
        have h := of_false hc7 h
        refine aw_region_draw mixed (.cons (.plain rfl (k_fieldP 3 0 rfl rfl (by decide) Try.underlying57 rfl i3 (by decide) .tmp)) ⟨rfl, trivial⟩ rfl <| .cons (.plain rfl (c_loadCell rfl rfl (by decide) Try.isAgg3 .tmp)) ⟨rfl, rfl, trivial⟩ rfl <| .cons (.plain rfl (c_geq rfl rfl (by decide) .tmp (.const rfl))) ⟨rfl, trivial⟩ rfl <| .cons (.plain rfl (c_move rfl rfl (by decide) .tmp)) ⟨rfl, trivial⟩ rfl <| .cons (.off (b' := false) rfl rfl rfl rfl (by decide)) ⟨(congrArg mB hc7), trivial⟩ rfl <| .cons (.off (b' := false) rfl rfl rfl rfl (by decide)) ⟨(congrArg mB hc7), trivial⟩ rfl <| .cons (.off (b' := false) rfl rfl rfl rfl (by decide)) ⟨(congrArg mB hc7), trivial⟩ rfl <| .cons (.off (b' := false) rfl rfl rfl rfl (by decide)) ⟨(congrArg mB hc7), trivial⟩ rfl <| .cons (.plain rfl (c_pick (b := false) rfl rfl (by decide) .tmp rfl (.const rfl))) ⟨(congrArg mB hc7), trivial⟩ rfl <| .cons (.plain rfl (c_move rfl rfl (by decide) .tmp)) ⟨rfl, trivial⟩ rfl <| .cons (.off (b' := false) rfl rfl rfl rfl (by decide)) ⟨rfl, trivial⟩ rfl <| .cons (.off (b' := false) rfl rfl rfl rfl (by decide)) ⟨rfl, trivial⟩ rfl <| .cons (.off (b' := false) rfl rfl rfl rfl (by decide)) ⟨rfl, trivial⟩ rfl <| .cons (.off (b' := false) rfl rfl rfl rfl (by decide)) ⟨rfl, trivial⟩ rfl <| .cons (.off (b' := false) rfl rfl rfl rfl (by decide)) ⟨rfl, trivial⟩ rfl <| .cons (.off (b' := false) rfl rfl rfl rfl (by decide)) ⟨rfl, trivial⟩ rfl <| .cons (.off (b' := false) rfl rfl rfl rfl (by decide)) ⟨rfl, trivial⟩ rfl <| .cons (.off (b' := false) rfl rfl rfl rfl (by decide)) ⟨rfl, trivial⟩ rfl <| .cons (.off (b' := false) rfl rfl rfl rfl (by decide)) ⟨rfl, trivial⟩ rfl <| .cons (.off (b' := false) rfl rfl rfl rfl (by decide)) ⟨rfl, trivial⟩ rfl <| .cons (.plain rfl (c_pick (b := false) rfl rfl (by decide) .tmp rfl (.const rfl))) ⟨rfl, trivial⟩ rfl <| .cons (.plain rfl (c_move rfl rfl (by decide) .tmp)) ⟨rfl, trivial⟩ rfl <| .cons (.off (b' := false) rfl rfl rfl rfl (by decide)) ⟨rfl, trivial⟩ rfl <| .cons (.off (b' := false) rfl rfl rfl rfl (by decide)) ⟨rfl, trivial⟩ rfl <| .cons (.off (b' := false) rfl rfl rfl rfl (by decide)) ⟨rfl, trivial⟩ rfl <| .cons (.plain rfl (c_pick (b := false) rfl rfl (by decide) .tmp rfl (.const rfl))) ⟨rfl, trivial⟩ rfl <| .cons (.plain rfl (c_assign rfl rfl (by decide) .tmp)) ⟨rfl, trivial⟩ rfl <| .nil) rfl rfl ?_
        obtain rfl := Option.some.inj h
        show Goes _ _
        exact (Goes.into [] ⟨rfl, rfl, .refl, trivial⟩)
    · show AW _ _ _ _ _
      refine aw_goes (σ' := [(.tmp 4, .m (.one (.t (.v (.bool v5)))))]) (Goes.into [] ⟨rfl, rfl, .refl, trivial⟩) ?_
      refine aw_ret ?_
      obtain rfl := Option.some.inj h
      exact ⟨.inr rfl, _, [], (.tmp rfl .nil), rfl, rfl, rfl, ⟨rfl, rfl, trivial⟩⟩

def topo_Check_L1 (p0 : List (Int × Int)) (v16 : Int) : Option (Int ⊕ (Unit ⊕ Int)) := bif decide (v16 < (p0.length : Int)) then (topo_Kids p0 v16).bind fun v18 => (at_ p0 v16).bind fun v19 => ((topo_below p0 v16).bind fun v21 => bif !v21 then some true else bif !((decide (v19.2 = 3)) == (decide ((v18.length : Int) = 0))) then some true else some (decide (8 < (v18.length : Int))) : Option Bool).bind fun v22 => bif v22 then some (.inr (.inr 2)) else some (.inl (wi64 (v16 + 1))) else some (.inr (.inl (())))
def topo_Check (p0 : List (Int × Int)) : Option Int := (bif decide ((p0.length : Int) < 1) then some true else bif decide (64 < (p0.length : Int)) then some true else (topo_Procs p0).bind fun v2 => some (decide (32 < (v2.length : Int))) : Option Bool).bind fun v3 => bif v3 then some 2 else (loopO (topo_Check_L1 p0) fuel 0).bind fun s => s.elim (fun v17 => some 0) (fun j : Int => some j)
theorem topo_Check_calls (p0 : List (Int × Int)) (r : Int) (h : topo_Check p0 = some r) : ACalls Try.prog 79 [.one (.t (.sl (p0.map e57)))] [] (.one (.t (.v (.int .i64 r)))) [] := by
  unfold topo_Check at h
  refine acalls_of_AW Try.func79 rfl Try.call79 (by decide) (show 1 ≤ 50 by decide) rfl rfl ?_
  refine aw_seq ?_
  refine aw_region (.cons (.plain rfl (c_assign rfl rfl (by decide) (.const rfl))) trivial rfl <| .nil) ?_
  show AW _ _ _ _ _
  refine aw_seq ?_
  refine aw_seq ?_
  refine aw_cut0 (fun v3 : Bool => [(.tmp 0, .m (.one (.t (.sl (p0.map e57))))), (.tmp 19, .m (.one (.t (.v (.bool v3)))))]) h (fun _ h => ?_) (fun v3 h => ?_)
  · cases hc3 : decide ((p0.length : Int) < 1) with
    | true =>
      have h := of_true hc3 h
      refine aw_region (.cons (.plain rfl (c_move rfl rfl (by decide) .tmp)) ⟨rfl, trivial⟩ rfl <| .cons (.plain rfl (k_len (i := Try.t57) (l := p0) (f := e57) (fun _ => rfl) (by decide) rfl rfl (by decide) Try.underlying22 (src_tree (f := e57) (fun _ => rfl) (by decide) .tmp))) ⟨rfl, trivial⟩ rfl <| .cons (.plain rfl (c_lss rfl rfl (by decide) .tmp (.const rfl))) ⟨rfl, trivial⟩ rfl <| .cons (.plain rfl (c_move rfl rfl (by decide) .tmp)) ⟨rfl, trivial⟩ rfl <| .cons (.off (b' := true) rfl rfl rfl rfl (by decide)) ⟨(congrArg mB hc3), trivial⟩ rfl <| .cons (.off (b' := true) rfl rfl rfl rfl (by decide)) ⟨(congrArg mB hc3), trivial⟩ rfl <| .cons (.off (b' := true) rfl rfl rfl rfl (by decide)) ⟨(congrArg mB hc3), trivial⟩ rfl <| .cons (.plain rfl (c_pick (b := true) rfl rfl (by decide) .tmp rfl (.const rfl))) ⟨(congrArg mB hc3), trivial⟩ rfl <| .cons (.plain rfl (c_move rfl rfl (by decide) .tmp)) ⟨rfl, trivial⟩ rfl <| .cons (.off (b' := true) rfl rfl rfl rfl (by decide)) ⟨rfl, trivial⟩ rfl <| .cons (.off (b' := true) rfl rfl rfl rfl (by decide)) ⟨rfl, trivial⟩ rfl <| .cons (.off (b' := true) rfl rfl rfl rfl (by decide)) ⟨rfl, trivial⟩ rfl <| .cons (.off (b' := true) rfl rfl rfl rfl (by decide)) ⟨rfl, trivial⟩ rfl <| .cons (.plain rfl (c_pick (b := true) rfl rfl (by decide) .tmp rfl (.const rfl))) ⟨rfl, trivial⟩ rfl <| .nil) ?_
      obtain rfl := Option.some.inj h
      show Goes _ _
      exact (Goes.into [] ⟨rfl, rfl, .refl, .refl, trivial⟩)
    | false =>
      have h := of_false hc3 h
      cases hc4 : decide (64 < (p0.length : Int)) with
      | true =>
        have h := of_true hc4 h
        refine aw_region (.cons (.plain rfl (c_move rfl rfl (by decide) .tmp)) ⟨rfl, trivial⟩ rfl <| .cons (.plain rfl (k_len (i := Try.t57) (l := p0) (f := e57) (fun _ => rfl) (by decide) rfl rfl (by decide) Try.underlying22 (src_tree (f := e57) (fun _ => rfl) (by decide) .tmp))) ⟨rfl, trivial⟩ rfl <| .cons (.plain rfl (c_lss rfl rfl (by decide) .tmp (.const rfl))) ⟨rfl, trivial⟩ rfl <| .cons (.plain rfl (c_move rfl rfl (by decide) .tmp)) ⟨rfl, trivial⟩ rfl <| .cons (.on (t := 9) rfl rfl (c_move rfl rfl (by decide) .tmp)) ⟨(congrArg mB hc3), rfl, trivial⟩ rfl <| .cons (.on (t := 9) rfl rfl (k_len (i := Try.t57) (l := p0) (f := e57) (fun _ => rfl) (by decide) rfl rfl (by decide) Try.underlying22 (src_tree (f := e57) (fun _ => rfl) (by decide) .tmp))) ⟨(congrArg mB hc3), rfl, trivial⟩ rfl <| .cons (.on (t := 9) rfl rfl (c_gtr rfl rfl (by decide) .tmp (.const rfl))) ⟨(congrArg mB hc3), rfl, trivial⟩ rfl <| .cons (.plain rfl (c_pick (b := false) rfl rfl (by decide) .tmp rfl .tmp)) ⟨(congrArg mB hc3), rfl, trivial⟩ rfl <| .cons (.plain rfl (c_move rfl rfl (by decide) .tmp)) ⟨rfl, trivial⟩ rfl <| .cons (.off (b' := true) rfl rfl rfl rfl (by decide)) ⟨(congrArg mB hc4), trivial⟩ rfl <| .cons (.off (b' := true) rfl rfl rfl rfl (by decide)) ⟨(congrArg mB hc4), trivial⟩ rfl <| .cons (.off (b' := true) rfl rfl rfl rfl (by decide)) ⟨(congrArg mB hc4), trivial⟩ rfl <| .cons (.off (b' := true) rfl rfl rfl rfl (by decide)) ⟨(congrArg mB hc4), trivial⟩ rfl <| .cons (.plain rfl (c_pick (b := true) rfl rfl (by decide) .tmp rfl (.const rfl))) ⟨(congrArg mB hc4), trivial⟩ rfl <| .nil) ?_
        obtain rfl := Option.some.inj h
        show Goes _ _
        exact (Goes.into [] ⟨rfl, rfl, .refl, .refl, trivial⟩)
      | false =>
        have h := of_false hc4 h
        obtain ⟨v2, hv2, h⟩ := bind_some h
        refine aw_region (.cons (.plain rfl (c_move rfl rfl (by decide) .tmp)) ⟨rfl, trivial⟩ rfl <| .cons (.plain rfl (k_len (i := Try.t57) (l := p0) (f := e57) (fun _ => rfl) (by decide) rfl rfl (by decide) Try.underlying22 (src_tree (f := e57) (fun _ => rfl) (by decide) .tmp))) ⟨rfl, trivial⟩ rfl <| .cons (.plain rfl (c_lss rfl rfl (by decide) .tmp (.const rfl))) ⟨rfl, trivial⟩ rfl <| .cons (.plain rfl (c_move rfl rfl (by decide) .tmp)) ⟨rfl, trivial⟩ rfl <| .cons (.on (t := 9) rfl rfl (c_move rfl rfl (by decide) .tmp)) ⟨(congrArg mB hc3), rfl, trivial⟩ rfl <| .cons (.on (t := 9) rfl rfl (k_len (i := Try.t57) (l := p0) (f := e57) (fun _ => rfl) (by decide) rfl rfl (by decide) Try.underlying22 (src_tree (f := e57) (fun _ => rfl) (by decide) .tmp))) ⟨(congrArg mB hc3), rfl, trivial⟩ rfl <| .cons (.on (t := 9) rfl rfl (c_gtr rfl rfl (by decide) .tmp (.const rfl))) ⟨(congrArg mB hc3), rfl, trivial⟩ rfl <| .cons (.plain rfl (c_pick (b := false) rfl rfl (by decide) .tmp rfl .tmp)) ⟨(congrArg mB hc3), rfl, trivial⟩ rfl <| .cons (.plain rfl (c_move rfl rfl (by decide) .tmp)) ⟨rfl, trivial⟩ rfl <| .cons (.on (t := 14) rfl rfl (c_move rfl rfl (by decide) .tmp)) ⟨(congrArg mB hc4), rfl, trivial⟩ rfl <| .cons (.on (t := 14) rfl rfl (c_call (ins := [.one (.t (.sl (p0.map e57)))]) (caps := []) rfl rfl rfl (by decide) .clo (topo_Procs_calls _ _ hv2) (.cons .tmp .nil) rfl rfl)) ⟨(congrArg mB hc4), rfl, trivial⟩ rfl <| .cons (.on (t := 14) rfl rfl (k_len (i := Try.t3) (l := v2) (f := e3) (fun _ => rfl) (by decide) rfl rfl (by decide) Try.underlying42 (src_tree (f := e3) (fun _ => rfl) (by decide) .tmp))) ⟨(congrArg mB hc4), rfl, trivial⟩ rfl <| .cons (.on (t := 14) rfl rfl (c_gtr rfl rfl (by decide) .tmp (.const rfl))) ⟨(congrArg mB hc4), rfl, trivial⟩ rfl <| .cons (.plain rfl (c_pick (b := false) rfl rfl (by decide) .tmp rfl .tmp)) ⟨(congrArg mB hc4), rfl, trivial⟩ rfl <| .nil) ?_
        obtain rfl := Option.some.inj h
        show Goes _ _
        exact (Goes.into [] ⟨rfl, rfl, .refl, .refl, trivial⟩)
  · show AW _ _ _ _ _
    refine aw_cond .tmp ⟨rfl, trivial⟩ (fun hc5 => ?_) (fun hc5 => ?_)
    · have h := of_true hc5 h
      refine aw_seq ?_
      refine aw_region (.cons (.plain rfl (c_assign rfl rfl (by decide) (.const rfl))) trivial rfl <| .nil) ?_
      show AW _ _ _ _ _
      refine aw_goes (σ' := [(.tmp 2, .m (.one (.t (.v (.int .i64 2)))))]) (Goes.into [] ⟨rfl, rfl, .refl, trivial⟩) ?_
      refine aw_ret ?_
      obtain rfl := Option.some.inj h
      exact ⟨.inr rfl, _, [], (.tmp rfl .nil), rfl, rfl, rfl, ⟨rfl, rfl, trivial⟩⟩
    · have h := of_false hc5 h
      refine aw_skip ?_
      show AW _ _ _ _ _
      refine aw_seq ?_
      refine aw_seq ?_
      refine aw_region (.cons (.plain rfl (c_move rfl rfl (by decide) .tmp)) ⟨rfl, trivial⟩ rfl <| .cons (.plain rfl (k_len (i := Try.t57) (l := p0) (f := e57) (fun _ => rfl) (by decide) rfl rfl (by decide) Try.underlying22 (src_tree (f := e57) (fun _ => rfl) (by decide) .tmp))) ⟨rfl, trivial⟩ rfl <| .cons (.plain rfl (c_move rfl rfl (by decide) (.const rfl))) trivial rfl <| .nil) ?_
      show AW _ _ _ _ _
      refine aw_loopJ (fun v16 : Int => [(.tmp 0, .m (.one (.t (.sl (p0.map e57))))), (.tmp 21, .m (.one (.t (.v (.int .i64 ((p0.length : Int))))))), (.tmp 22, .m (.one (.t (.v (.int .i64 v16)))))]) (fun v17 : Unit => []) h (Goes.into [] ⟨rfl, rfl, .refl, .refl, .refl, trivial⟩) (fun v16 _ h => ?_) (fun v17 h => ?_)
      · unfold topo_Check_L1 at h
        refine aw_seq ?_
        refine aw_region (.cons (.plain rfl (c_lss rfl rfl (by decide) .tmp .tmp)) ⟨rfl, rfl, trivial⟩ rfl <| .nil) ?_
        show AW _ _ _ _ _
        refine aw_seq ?_
        refine aw_cond .tmp ⟨rfl, trivial⟩ (fun hc18 => ?_) (fun hc18 => ?_)
        · have h := of_true hc18 h
          refine aw_skip ?_
          show AW _ _ _ _ _
          refine aw_seq ?_
          refine aw_block ?_
          refine aw_seq ?_
          refine aw_region (.cons (.plain rfl (c_move rfl rfl (by decide) .tmp)) ⟨rfl, trivial⟩ rfl <| .cons (.plain rfl (c_assign rfl rfl (by decide) .tmp)) ⟨rfl, trivial⟩ rfl <| .nil) ?_
          show AW _ _ _ _ _
          refine aw_seq ?_
          obtain ⟨v18, hv18, h⟩ := bind_some h
          refine aw_region (.cons (.plain rfl (c_move rfl rfl (by decide) .tmp)) ⟨rfl, trivial⟩ rfl <| .cons (.plain rfl (c_move rfl rfl (by decide) .tmp)) ⟨rfl, trivial⟩ rfl <| .cons (.plain rfl (c_call (ins := [.one (.t (.sl (p0.map e57))), .one (.t (.v (.int .i64 v16)))]) (caps := []) rfl rfl rfl (by decide) .clo (topo_Kids_calls _ _ _ hv18) (.cons .tmp (.cons .tmp .nil)) rfl rfl)) ⟨rfl, rfl, trivial⟩ rfl <| .cons (.plain rfl (k_len (i := Try.t3) (l := v18) (f := e3) (fun _ => rfl) (by decide) rfl rfl (by decide) Try.underlying42 (src_tree (f := e3) (fun _ => rfl) (by decide) .tmp))) ⟨rfl, trivial⟩ rfl <| .cons (.plain rfl (c_assign rfl rfl (by decide) .tmp)) ⟨rfl, trivial⟩ rfl <| .nil) ?_
          show AW _ _ _ _ _
          refine aw_seq ?_
          obtain ⟨v19, hv19, h⟩ := bind_some h
          refine aw_region (.cons (.plain rfl (c_move rfl rfl (by decide) .tmp)) ⟨rfl, trivial⟩ rfl <| .cons (.plain rfl (c_move rfl rfl (by decide) .tmp)) ⟨rfl, trivial⟩ rfl <| .cons (.plain rfl (k_index (f := e57) (i := Try.t57) hv19 rfl rfl rfl (by decide) Try.underlying22 i57 .tmp .tmp)) ⟨rfl, rfl, trivial⟩ rfl <| .cons (.plain rfl (k_fieldT 3 1 rfl rfl (by decide) Try.underlying57 rfl i3 (by decide) .tmp)) ⟨rfl, trivial⟩ rfl <| .cons (.plain rfl (c_loadTree rfl rfl (by decide) Try.isAgg3 .tmp rfl)) ⟨rfl, trivial⟩ rfl <| .cons (.plain rfl (c_eql rfl rfl (by decide) .tmp (.const rfl))) ⟨rfl, trivial⟩ rfl <| .cons (.plain rfl (c_assign rfl rfl (by decide) .tmp)) ⟨rfl, trivial⟩ rfl <| .nil) ?_
          show AW _ _ _ _ _
          refine aw_seq ?_
          refine aw_cut0 (fun v22 : Bool => [(.tmp 0, .m (.one (.t (.sl (p0.map e57))))), (.tmp 21, .m (.one (.t (.v (.int .i64 ((p0.length : Int))))))), (.tmp 22, .m (.one (.t (.v (.int .i64 v16))))), (.tmp 48, .m (.one (.t (.v (.bool v22)))))]) h (fun _ h => ?_) (fun v22 h => ?_)
          · obtain ⟨v21, hv21, h⟩ := bind_some h
            cases hc21 : !v21 with
            | true =>
              have h := of_true hc21 h
              refine aw_region (.cons (.plain rfl (c_move rfl rfl (by decide) .tmp)) ⟨rfl, trivial⟩ rfl <| .cons (.plain rfl (c_move rfl rfl (by decide) .tmp)) ⟨rfl, trivial⟩ rfl <| .cons (.plain rfl (c_call (ins := [.one (.t (.sl (p0.map e57))), .one (.t (.v (.int .i64 v16)))]) (caps := []) rfl rfl rfl (by decide) .clo (topo_below_calls _ _ _ hv21) (.cons .tmp (.cons .tmp .nil)) rfl rfl)) ⟨rfl, rfl, trivial⟩ rfl <| .cons (.plain rfl (c_not rfl rfl (by decide) .tmp)) ⟨rfl, trivial⟩ rfl <| .cons (.plain rfl (c_move rfl rfl (by decide) .tmp)) ⟨rfl, trivial⟩ rfl <| .cons (.off (b' := true) rfl rfl rfl rfl (by decide)) ⟨(congrArg mB hc21), trivial⟩ rfl <| .cons (.off (b' := true) rfl rfl rfl rfl (by decide)) ⟨(congrArg mB hc21), trivial⟩ rfl <| .cons (.off (b' := true) rfl rfl rfl rfl (by decide)) ⟨(congrArg mB hc21), trivial⟩ rfl <| .cons (.off (b' := true) rfl rfl rfl rfl (by decide)) ⟨(congrArg mB hc21), trivial⟩ rfl <| .cons (.plain rfl (c_pick (b := true) rfl rfl (by decide) .tmp rfl (.const rfl))) ⟨(congrArg mB hc21), trivial⟩ rfl <| .cons (.plain rfl (c_move rfl rfl (by decide) .tmp)) ⟨rfl, trivial⟩ rfl <| .cons (.off (b' := true) rfl rfl rfl rfl (by decide)) ⟨rfl, trivial⟩ rfl <| .cons (.off (b' := true) rfl rfl rfl rfl (by decide)) ⟨rfl, trivial⟩ rfl <| .cons (.plain rfl (c_pick (b := true) rfl rfl (by decide) .tmp rfl (.const rfl))) ⟨rfl, trivial⟩ rfl <| .nil) ?_
              obtain rfl := Option.some.inj h
              show Goes _ _
              exact (Goes.into [] ⟨rfl, rfl, .refl, .refl, .refl, .refl, trivial⟩)
            | false =>
              have h := of_false hc21 h
              cases hc22 : !((decide (v19.2 = 3)) == (decide ((v18.length : Int) = 0))) with
              | true =>
                have h := of_true hc22 h
                refine aw_region (.cons (.plain rfl (c_move rfl rfl (by decide) .tmp)) ⟨rfl, trivial⟩ rfl <| .cons (.plain rfl (c_move rfl rfl (by decide) .tmp)) ⟨rfl, trivial⟩ rfl <| .cons (.plain rfl (c_call (ins := [.one (.t (.sl (p0.map e57))), .one (.t (.v (.int .i64 v16)))]) (caps := []) rfl rfl rfl (by decide) .clo (topo_below_calls _ _ _ hv21) (.cons .tmp (.cons .tmp .nil)) rfl rfl)) ⟨rfl, rfl, trivial⟩ rfl <| .cons (.plain rfl (c_not rfl rfl (by decide) .tmp)) ⟨rfl, trivial⟩ rfl <| .cons (.plain rfl (c_move rfl rfl (by decide) .tmp)) ⟨rfl, trivial⟩ rfl <| .cons (.on (t := 39) rfl rfl (c_move rfl rfl (by decide) .tmp)) ⟨(congrArg mB hc21), rfl, trivial⟩ rfl <| .cons (.on (t := 39) rfl rfl (c_move rfl rfl (by decide) .tmp)) ⟨(congrArg mB hc21), rfl, trivial⟩ rfl <| .cons (.on (t := 39) rfl rfl (c_eql rfl rfl (by decide) .tmp (.const rfl))) ⟨(congrArg mB hc21), rfl, trivial⟩ rfl <| .cons (.on (t := 39) rfl rfl (c_neqB Try.underlying4 rfl rfl (by decide) .tmp .tmp)) ⟨(congrArg mB hc21), rfl, rfl, trivial⟩ rfl <| .cons (.plain rfl (c_pick (b := false) rfl rfl (by decide) .tmp rfl .tmp)) ⟨(congrArg mB hc21), rfl, trivial⟩ rfl <| .cons (.plain rfl (c_move rfl rfl (by decide) .tmp)) ⟨rfl, trivial⟩ rfl <| .cons (.off (b' := true) rfl rfl rfl rfl (by decide)) ⟨(congrArg mB hc22), trivial⟩ rfl <| .cons (.off (b' := true) rfl rfl rfl rfl (by decide)) ⟨(congrArg mB hc22), trivial⟩ rfl <| .cons (.plain rfl (c_pick (b := true) rfl rfl (by decide) .tmp rfl (.const rfl))) ⟨(congrArg mB hc22), trivial⟩ rfl <| .nil) ?_
                obtain rfl := Option.some.inj h
                show Goes _ _
                exact (Goes.into [] ⟨rfl, rfl, .refl, .refl, .refl, .refl, trivial⟩)
              | false =>
                have h := of_false hc22 h
                refine aw_region (.cons (.plain rfl (c_move rfl rfl (by decide) .tmp)) ⟨rfl, trivial⟩ rfl <| .cons (.plain rfl (c_move rfl rfl (by decide) .tmp)) ⟨rfl, trivial⟩ rfl <| .cons (.plain rfl (c_call (ins := [.one (.t (.sl (p0.map e57))), .one (.t (.v (.int .i64 v16)))]) (caps := []) rfl rfl rfl (by decide) .clo (topo_below_calls _ _ _ hv21) (.cons .tmp (.cons .tmp .nil)) rfl rfl)) ⟨rfl, rfl, trivial⟩ rfl <| .cons (.plain rfl (c_not rfl rfl (by decide) .tmp)) ⟨rfl, trivial⟩ rfl <| .cons (.plain rfl (c_move rfl rfl (by decide) .tmp)) ⟨rfl, trivial⟩ rfl <| .cons (.on (t := 39) rfl rfl (c_move rfl rfl (by decide) .tmp)) ⟨(congrArg mB hc21), rfl, trivial⟩ rfl <| .cons (.on (t := 39) rfl rfl (c_move rfl rfl (by decide) .tmp)) ⟨(congrArg mB hc21), rfl, trivial⟩ rfl <| .cons (.on (t := 39) rfl rfl (c_eql rfl rfl (by decide) .tmp (.const rfl))) ⟨(congrArg mB hc21), rfl, trivial⟩ rfl <| .cons (.on (t := 39) rfl rfl (c_neqB Try.underlying4 rfl rfl (by decide) .tmp .tmp)) ⟨(congrArg mB hc21), rfl, rfl, trivial⟩ rfl <| .cons (.plain rfl (c_pick (b := false) rfl rfl (by decide) .tmp rfl .tmp)) ⟨(congrArg mB hc21), rfl, trivial⟩ rfl <| .cons (.plain rfl (c_move rfl rfl (by decide) .tmp)) ⟨rfl, trivial⟩ rfl <| .cons (.on (t := 45) rfl rfl (c_move rfl rfl (by decide) .tmp)) ⟨(congrArg mB hc22), rfl, trivial⟩ rfl <| .cons (.on (t := 45) rfl rfl (c_gtr rfl rfl (by decide) .tmp (.const rfl))) ⟨(congrArg mB hc22), rfl, trivial⟩ rfl <| .cons (.plain rfl (c_pick (b := false) rfl rfl (by decide) .tmp rfl .tmp)) ⟨(congrArg mB hc22), rfl, trivial⟩ rfl <| .nil) ?_
                obtain rfl := Option.some.inj h
                show Goes _ _
                exact (Goes.into [] ⟨rfl, rfl, .refl, .refl, .refl, .refl, trivial⟩)
          · show AW _ _ _ _ _
            refine aw_cond .tmp ⟨rfl, trivial⟩ (fun hc23 => ?_) (fun hc23 => ?_)
            · have h := of_true hc23 h
              refine aw_seq ?_
              refine aw_region (.cons (.plain rfl (c_assign rfl rfl (by decide) (.const rfl))) trivial rfl <| .nil) ?_
              show AW _ _ _ _ _
              refine aw_goes (σ' := [(.tmp 2, .m (.one (.t (.v (.int .i64 2)))))]) (Goes.into [] ⟨rfl, rfl, .refl, trivial⟩) ?_
              refine aw_ret ?_
              obtain rfl := Option.some.inj h
              refine ⟨_, rfl, fun h => ?_⟩
              obtain rfl := Option.some.inj h
              exact ⟨.inr rfl, _, [], (.tmp rfl .nil), rfl, rfl, rfl, ⟨rfl, rfl, trivial⟩⟩
            · have h := of_false hc23 h
              refine aw_skip ?_
              show AW _ _ _ _ _
              refine aw_region (.cons (.plain rfl (c_add rfl rfl (by decide) .tmp (.const rfl))) ⟨rfl, trivial⟩ rfl <| .cons (.plain rfl (c_move rfl rfl (by decide) .tmp)) ⟨rfl, trivial⟩ rfl <| .nil) ?_
              obtain rfl := Option.some.inj h
              exact ⟨_, rfl, (Goes.into [] ⟨rfl, rfl, .refl, .refl, .refl, trivial⟩)⟩
        · have h := of_false hc18 h
          refine aw_exit ?_
          obtain rfl := Option.some.inj h
          exact ⟨_, rfl, (Goes.into [] ⟨rfl, rfl, trivial⟩)⟩
      · show AW _ _ _ _ _
        refine aw_seq ?_
        refine aw_region (.cons (.plain rfl (c_assign rfl rfl (by decide) (.const rfl))) trivial rfl <| .nil) ?_
        show AW _ _ _ _ _
        refine aw_goes (σ' := [(.tmp 2, .m (.one (.t (.v (.int .i64 0)))))]) (Goes.into [] ⟨rfl, rfl, .refl, trivial⟩) ?_
        refine aw_ret ?_
        obtain rfl := Option.some.inj h
        exact ⟨.inr rfl, _, [], (.tmp rfl .nil), rfl, rfl, rfl, ⟨rfl, rfl, trivial⟩⟩

def slices_IndexFunc_int_L1 (p0 : List (Int)) (p1 : Int → Option Bool) (v7 : Int) : Option (Int ⊕ (Unit ⊕ Int)) := bif decide (v7 < (p0.length : Int)) then (at_ p0 v7).bind fun v9 => (p1 v9).bind fun v10 => bif v10 then some (.inr (.inr v7)) else some (.inl (wi64 (v7 + 1))) else some (.inr (.inl (())))
def slices_IndexFunc_int (p0 : List (Int)) (p1 : Int → Option Bool) : Option Int := (loopO (slices_IndexFunc_int_L1 p0 p1) fuel 0).bind fun s => s.elim (fun v8 => some ((-1))) (fun j : Int => some j)
theorem slices_IndexFunc_int_calls (p0 : List (Int)) (p1 : Int → Option Bool) {p1g : FuncId} {p1c : List (List T)} (Hp1 : ∀ (x0 : Int) (r : Bool), p1 x0 = some r → ACalls Try.prog p1g ([.one (.t (.v (.int .i64 x0)))] ++ p1c.map fun cs => .one (.tptr cs 0)) [] (.one (.t (.v (.bool r)))) []) (r : Int) (h : slices_IndexFunc_int p0 p1 = some r) : ACalls Try.prog 73 [.one (.t (.sl (p0.map e3))), .one (.t (.clo p1g p1c))] [] (.one (.t (.v (.int .i64 r)))) [] := by
  unfold slices_IndexFunc_int at h
  refine acalls_of_AW Try.func73 rfl Try.call73 (by decide) (show 2 ≤ 19 by decide) rfl rfl ?_
  refine aw_seq ?_
  refine aw_region (.cons (.plain rfl (c_assign rfl rfl (by decide) (.const rfl))) trivial rfl <| .nil) ?_
  show AW _ _ _ _ _
  refine aw_seq ?_
  refine aw_seq ?_
  refine aw_region (.cons (.plain rfl (c_move rfl rfl (by decide) .tmp)) ⟨rfl, trivial⟩ rfl <| .cons (.plain rfl (k_len (i := Try.t3) (l := p0) (f := e3) (fun _ => rfl) (by decide) rfl rfl (by decide) Try.underlying42 (src_tree (f := e3) (fun _ => rfl) (by decide) .tmp))) ⟨rfl, trivial⟩ rfl <| .cons (.plain rfl (c_move rfl rfl (by decide) (.const rfl))) trivial rfl <| .nil) ?_
  show AW _ _ _ _ _
  refine aw_loopJ (fun v7 : Int => [(.tmp 0, .m (.one (.t (.sl (p0.map e3))))), (.tmp 1, .m (.one (.t (.clo p1g p1c)))), (.tmp 7, .m (.one (.t (.v (.int .i64 ((p0.length : Int))))))), (.tmp 8, .m (.one (.t (.v (.int .i64 v7)))))]) (fun v8 : Unit => []) h (Goes.into [] ⟨rfl, rfl, .refl, .refl, .refl, .refl, trivial⟩) (fun v7 _ h => ?_) (fun v8 h => ?_)
  · unfold slices_IndexFunc_int_L1 at h
    refine aw_seq ?_
    refine aw_region (.cons (.plain rfl (c_lss rfl rfl (by decide) .tmp .tmp)) ⟨rfl, rfl, trivial⟩ rfl <| .nil) ?_
    show AW _ _ _ _ _
    refine aw_seq ?_
    refine aw_cond .tmp ⟨rfl, trivial⟩ (fun hc5 => ?_) (fun hc5 => ?_)
    · have h := of_true hc5 h
      refine aw_skip ?_
      show AW _ _ _ _ _
      refine aw_seq ?_
      refine aw_block ?_
      refine aw_seq ?_
      refine aw_region (.cons (.plain rfl (c_move rfl rfl (by decide) .tmp)) ⟨rfl, trivial⟩ rfl <| .cons (.plain rfl (c_assign rfl rfl (by decide) .tmp)) ⟨rfl, trivial⟩ rfl <| .nil) ?_
      show AW _ _ _ _ _
      refine aw_seq ?_
      obtain ⟨v9, hv9, h⟩ := bind_some h
      obtain ⟨v10, hv10, h⟩ := bind_some h
      refine aw_region (.cons (.plain rfl (c_move rfl rfl (by decide) .tmp)) ⟨rfl, trivial⟩ rfl <| .cons (.plain rfl (c_move rfl rfl (by decide) .tmp)) ⟨rfl, trivial⟩ rfl <| .cons (.plain rfl (c_move rfl rfl (by decide) .tmp)) ⟨rfl, trivial⟩ rfl <| .cons (.plain rfl (k_index (f := e3) (i := Try.t3) hv9 rfl rfl rfl (by decide) Try.underlying42 i3 .tmp .tmp)) ⟨rfl, rfl, trivial⟩ rfl <| .cons (.plain rfl (c_loadTree rfl rfl (by decide) Try.isAgg3 .tmp rfl)) ⟨rfl, trivial⟩ rfl <| .cons (.plain rfl (c_call (ins := [.one (.t (.v (.int .i64 v9)))]) (caps := p1c) rfl rfl rfl (by decide) .tmp (Hp1 _ _ hv10) (.cons .tmp .nil) rfl rfl)) ⟨rfl, rfl, trivial⟩ rfl <| .nil) ?_
      show AW _ _ _ _ _
      refine aw_cond .tmp ⟨rfl, trivial⟩ (fun hc6 => ?_) (fun hc6 => ?_)
      · have h := of_true hc6 h
        refine aw_seq ?_
        refine aw_region (.cons (.plain rfl (c_move rfl rfl (by decide) .tmp)) ⟨rfl, trivial⟩ rfl <| .cons (.plain rfl (c_assign rfl rfl (by decide) .tmp)) ⟨rfl, trivial⟩ rfl <| .nil) ?_
        show AW _ _ _ _ _
        refine aw_goes (σ' := [(.tmp 4, .m (.one (.t (.v (.int .i64 v7)))))]) (Goes.into [] ⟨rfl, rfl, .refl, trivial⟩) ?_
        refine aw_ret ?_
        obtain rfl := Option.some.inj h
        refine ⟨_, rfl, fun h => ?_⟩
        obtain rfl := Option.some.inj h
        exact ⟨.inr rfl, _, [], (.tmp rfl .nil), rfl, rfl, rfl, ⟨rfl, rfl, trivial⟩⟩
      · have h := of_false hc6 h
        refine aw_skip ?_
        show AW _ _ _ _ _
        refine aw_region (.cons (.plain rfl (c_add rfl rfl (by decide) .tmp (.const rfl))) ⟨rfl, trivial⟩ rfl <| .cons (.plain rfl (c_move rfl rfl (by decide) .tmp)) ⟨rfl, trivial⟩ rfl <| .nil) ?_
        obtain rfl := Option.some.inj h
        exact ⟨_, rfl, (Goes.into [] ⟨rfl, rfl, .refl, .refl, .refl, .refl, trivial⟩)⟩
    · have h := of_false hc5 h
      refine aw_exit ?_
      obtain rfl := Option.some.inj h
      exact ⟨_, rfl, (Goes.into [] ⟨rfl, rfl, trivial⟩)⟩
  · show AW _ _ _ _ _
    refine aw_seq ?_
    refine aw_region (.cons (.plain rfl (c_assign rfl rfl (by decide) (.const rfl))) trivial rfl <| .nil) ?_
    show AW _ _ _ _ _
    refine aw_goes (σ' := [(.tmp 4, .m (.one (.t (.v (.int .i64 ((-1)))))))]) (Goes.into [] ⟨rfl, rfl, .refl, trivial⟩) ?_
    refine aw_ret ?_
    obtain rfl := Option.some.inj h
    exact ⟨.inr rfl, _, [], (.tmp rfl .nil), rfl, rfl, rfl, ⟨rfl, rfl, trivial⟩⟩

def slices_ContainsFunc_int (p0 : List (Int)) (p1 : Int → Option Bool) : Option Bool := (slices_IndexFunc_int p0 p1).bind fun v1 => some (decide (0 ≤ v1))
theorem slices_ContainsFunc_int_calls (p0 : List (Int)) (p1 : Int → Option Bool) {p1g : FuncId} {p1c : List (List T)} (Hp1 : ∀ (x0 : Int) (r : Bool), p1 x0 = some r → ACalls Try.prog p1g ([.one (.t (.v (.int .i64 x0)))] ++ p1c.map fun cs => .one (.tptr cs 0)) [] (.one (.t (.v (.bool r)))) []) (r : Bool) (h : slices_ContainsFunc_int p0 p1 = some r) : ACalls Try.prog 80 [.one (.t (.sl (p0.map e3))), .one (.t (.clo p1g p1c))] [] (.one (.t (.v (.bool r)))) [] := by
  unfold slices_ContainsFunc_int at h
  refine acalls_of_AW Try.func80 rfl Try.call80 (by decide) (show 2 ≤ 9 by decide) rfl rfl ?_
  refine aw_seq ?_
  refine aw_region (.cons (.plain rfl (c_assign rfl rfl (by decide) (.const rfl))) trivial rfl <| .nil) ?_
  show AW _ _ _ _ _
  refine aw_seq ?_
  obtain ⟨v1, hv1, h⟩ := bind_some h
  refine aw_region (.cons (.plain rfl (c_move rfl rfl (by decide) .tmp)) ⟨rfl, trivial⟩ rfl <| .cons (.plain rfl (c_move rfl rfl (by decide) .tmp)) ⟨rfl, trivial⟩ rfl <| .cons (.plain rfl (c_call (ins := [.one (.t (.sl (p0.map e3))), .one (.t (.clo p1g p1c))]) (caps := []) rfl rfl rfl (by decide) .clo (slices_IndexFunc_int_calls _ _ Hp1 _ hv1) (.cons .tmp (.cons .tmp .nil)) rfl rfl)) ⟨rfl, rfl, trivial⟩ rfl <| .cons (.plain rfl (c_geq rfl rfl (by decide) .tmp (.const rfl))) ⟨rfl, trivial⟩ rfl <| .cons (.plain rfl (c_assign rfl rfl (by decide) .tmp)) ⟨rfl, trivial⟩ rfl <| .nil) ?_
  show AW _ _ _ _ _
  refine aw_goes (σ' := [(.tmp 4, .m (.one (.t (.v (.bool (decide (0 ≤ v1)))))))]) (Goes.into [] ⟨rfl, rfl, .refl, trivial⟩) ?_
  refine aw_ret ?_
  obtain rfl := Option.some.inj h
  exact ⟨.inr rfl, _, [], (.tmp rfl .nil), rfl, rfl, rfl, ⟨rfl, rfl, trivial⟩⟩

def bits_Set_All_L1 (p0 : Int) (v13 : ((List (Int)) × Int)) : Option (((List (Int)) × Int) ⊕ List (Int)) := bif decide (v13.2 < 64) then ((bits_Set_Has p0 v13.2).bind fun v17 => bif v17 then (app_ v13.1 [v13.2]).bind fun v18 => some v18 else some v13.1 : Option (List (Int))).bind fun v19 => some (.inl ((v19, wi64 (v13.2 + 1)))) else some (.inr v13.1)
def bits_Set_All (p0 : Int) : Option (List (Int)) := (loopO (bits_Set_All_L1 p0) fuel ((([] : List (Int)), 0))).bind fun v14 => some v14
theorem bits_Set_All_calls (p0 : Int) (r : List (Int)) (h : bits_Set_All p0 = some r) : ACalls Try.prog 81 [.one (.t (.v (.int .u64 p0)))] [] (.one (.t (.sl (r.map e3)))) [] := by
  unfold bits_Set_All at h
  refine acalls_of_AW Try.func81 rfl Try.call81 (by decide) (show 1 ≤ 17 by decide) rfl rfl ?_
  refine aw_seq ?_
  refine aw_region (.cons (.plain rfl (c_assign rfl rfl (by decide) .nilT)) trivial rfl <| .nil) ?_
  show AW _ _ _ _ _
  refine aw_seq ?_
  refine aw_region (.cons (.plain rfl (c_assign rfl rfl (by decide) (.const rfl))) trivial rfl <| .nil) ?_
  show AW _ _ _ _ _
  refine aw_seq ?_
  refine aw_seq ?_
  refine aw_region (.cons (.plain rfl (c_move rfl rfl (by decide) (.const rfl))) trivial rfl <| .nil) ?_
  show AW _ _ _ _ _
  refine aw_loop0 (fun v13 : ((List (Int)) × Int) => [(.tmp 0, .m (.one (.t (.v (.int .u64 p0))))), (.tmp 3, .m (.one (.row 500004))), (.tmp 5, .m (.one (.t (.v (.int .i64 v13.2))))), (.row 500004, .r 3 1 (v13.1.map e3))]) (fun v14 : List (Int) => [(.tmp 3, .m (.one (.row 500007))), (.row 500007, .r 3 1 (v14.map e3))]) h (Goes.trans (Goes.nilRow (t := 3) (n := 500010) 3 1 (by decide) rfl (by decide) rfl) (Goes.into [(500004, 500010)] ⟨rfl, rfl, .refl, .refl, .refl, .refl, trivial⟩)) (fun v13 _ h => ?_) (fun v14 h => ?_)
  · unfold bits_Set_All_L1 at h
    refine aw_seq ?_
    refine aw_region (.cons (.plain rfl (c_lss rfl rfl (by decide) .tmp (.const rfl))) ⟨rfl, trivial⟩ rfl <| .nil) ?_
    show AW _ _ _ _ _
    refine aw_seq ?_
    refine aw_cond .tmp ⟨rfl, trivial⟩ (fun hc7 => ?_) (fun hc7 => ?_)
    · have h := of_true hc7 h
      refine aw_skip ?_
      show AW _ _ _ _ _
      refine aw_seq ?_
      refine aw_cut0 (fun v19 : List (Int) => [(.tmp 0, .m (.one (.t (.v (.int .u64 p0))))), (.tmp 3, .m (.one (.row 500008))), (.tmp 5, .m (.one (.t (.v (.int .i64 v13.2))))), (.row 500008, .r 3 1 (v19.map e3))]) h (fun _ h => ?_) (fun v19 h => ?_)
      · refine aw_block ?_
        refine aw_seq ?_
        refine aw_region (.cons (.plain rfl (c_move rfl rfl (by decide) .tmp)) ⟨rfl, trivial⟩ rfl <| .cons (.plain rfl (c_assign rfl rfl (by decide) .tmp)) ⟨rfl, trivial⟩ rfl <| .nil) ?_
        show AW _ _ _ _ _
        refine aw_seq ?_
        obtain ⟨v17, hv17, h⟩ := bind_some h
        refine aw_region (.cons (.plain rfl (c_move rfl rfl (by decide) .tmp)) ⟨rfl, trivial⟩ rfl <| .cons (.plain rfl (c_move rfl rfl (by decide) .tmp)) ⟨rfl, trivial⟩ rfl <| .cons (.plain rfl (c_call (ins := [.one (.t (.v (.int .u64 p0))), .one (.t (.v (.int .i64 v13.2)))]) (caps := []) rfl rfl rfl (by decide) .clo (bits_Set_Has_calls _ _ _ hv17) (.cons .tmp (.cons .tmp .nil)) rfl rfl)) ⟨rfl, rfl, trivial⟩ rfl <| .nil) ?_
        show AW _ _ _ _ _
        refine aw_cond .tmp ⟨rfl, trivial⟩ (fun hc9 => ?_) (fun hc9 => ?_)
        · have h := of_true hc9 h
          obtain ⟨v18, hv18, h⟩ := bind_some h
          refine aw_region (.cons (.plain rfl (c_move rfl rfl (by decide) .tmp)) ⟨rfl, trivial⟩ rfl <| .cons (.plain rfl (c_move rfl rfl (by decide) .tmp)) ⟨rfl, trivial⟩ rfl <| .cons (.plain rfl (.frozen (by simp) (c_buildSlice (sz := 1) (es := [v13.2].map e3) rfl rfl (by decide) Try.underlying42 i3 rfl rfl rfl rfl (by decide) (.c1 .tmp .nil) rfl (emb_len (f := e3) (n := 1) (fun _ => rfl) _) (by decide)))) ⟨rfl, trivial⟩ rfl <| .cons (.plain rfl (k_appendRow (f := e3) hv18 (by decide) (by decide) rfl rfl (by decide) Try.underlying42 i3 rfl rfl rfl rfl (by decide) .tmp (src_tree (f := e3) (fun _ => rfl) (by decide) .tmp))) ⟨rfl, rfl, rfl, trivial⟩ rfl <| .cons (.plain rfl (c_assign rfl rfl (by decide) .tmp)) ⟨rfl, trivial⟩ rfl <| .nil) ?_
          obtain rfl := Option.some.inj h
          show Goes _ _
          exact (Goes.into [(500008, 14)] ⟨rfl, rfl, .refl, .refl, .refl, .refl, trivial⟩)
        · have h := of_false hc9 h
          refine aw_skip ?_
          obtain rfl := Option.some.inj h
          show Goes _ _
          exact (Goes.into [(500008, 500004)] ⟨rfl, rfl, .refl, .refl, .refl, .refl, trivial⟩)
      · show AW _ _ _ _ _
        refine aw_region (.cons (.plain rfl (c_add rfl rfl (by decide) .tmp (.const rfl))) ⟨rfl, trivial⟩ rfl <| .cons (.plain rfl (c_move rfl rfl (by decide) .tmp)) ⟨rfl, trivial⟩ rfl <| .nil) ?_
        obtain rfl := Option.some.inj h
        exact ⟨_, rfl, (Goes.into [(500004, 500008)] ⟨rfl, rfl, .refl, .refl, .refl, .refl, trivial⟩)⟩
    · have h := of_false hc7 h
      refine aw_exit ?_
      obtain rfl := Option.some.inj h
      exact ⟨rfl, _, rfl, (Goes.into [(500007, 500004)] ⟨rfl, rfl, .refl, .refl, trivial⟩)⟩
  · show AW _ _ _ _ _
    refine aw_seq ?_
    refine aw_region (.cons (.plain rfl (c_move rfl rfl (by decide) .tmp)) ⟨rfl, trivial⟩ rfl <| .cons (.plain rfl (c_assign rfl rfl (by decide) .tmp)) ⟨rfl, trivial⟩ rfl <| .nil) ?_
    show AW _ _ _ _ _
    refine aw_goes (σ' := [(.tmp 2, .m (.one (.t (.sl (v14.map e3)))))]) (Goes.trans (Goes.freezeRow (n := 500007) rfl) (Goes.into [] ⟨rfl, rfl, .refl, trivial⟩)) ?_
    refine aw_ret ?_
    obtain rfl := Option.some.inj h
    exact ⟨.inr rfl, _, [], (.tmp rfl .nil), rfl, rfl, rfl, ⟨rfl, rfl, trivial⟩⟩

def runs_whole_1 (p0 : Int) (c0 : Int) : Option Bool := some (decide (c0 ≤ p0))
theorem runs_whole_1_calls (p0 : Int) (c0 : Int) (r : Bool) (h : runs_whole_1 p0 c0 = some r) : ACalls Try.prog 82 [.one (.t (.v (.int .i64 p0))), .one (.tptr [.v (.int .i64 c0)] 0)] [] (.one (.t (.v (.bool r)))) [] := by
  unfold runs_whole_1 at h
  refine acalls_of_AW Try.func82 rfl Try.call82 (by decide) (show 2 ≤ 7 by decide) rfl rfl ?_
  refine aw_seq ?_
  refine aw_region (.cons (.plain rfl (c_assign rfl rfl (by decide) (.const rfl))) trivial rfl <| .nil) ?_
  show AW _ _ _ _ _
  refine aw_seq ?_
  refine aw_region (.cons (.plain rfl (c_move rfl rfl (by decide) .tmp)) ⟨rfl, trivial⟩ rfl <| .cons (.plain rfl (c_loadTree rfl rfl (by decide) Try.isAgg3 .tmp rfl)) ⟨rfl, trivial⟩ rfl <| .cons (.plain rfl (c_geq rfl rfl (by decide) .tmp .tmp)) ⟨rfl, rfl, trivial⟩ rfl <| .cons (.plain rfl (c_assign rfl rfl (by decide) .tmp)) ⟨rfl, trivial⟩ rfl <| .nil) ?_
  show AW _ _ _ _ _
  refine aw_goes (σ' := [(.tmp 3, .m (.one (.t (.v (.bool (decide (c0 ≤ p0)))))))]) (Goes.into [] ⟨rfl, rfl, .refl, trivial⟩) ?_
  refine aw_ret ?_
  obtain rfl := Option.some.inj h
  exact ⟨.inr rfl, _, [], (.tmp rfl .nil), rfl, rfl, rfl, ⟨rfl, rfl, trivial⟩⟩

def topo_Nodes (p0 : List (Int × Int)) : Option (List (Int)) := (topo_level p0 1).bind fun v1 => some v1
theorem topo_Nodes_calls (p0 : List (Int × Int)) (r : List (Int)) (h : topo_Nodes p0 = some r) : ACalls Try.prog 83 [.one (.t (.sl (p0.map e57)))] [] (.one (.t (.sl (r.map e3)))) [] := by
  unfold topo_Nodes at h
  refine acalls_of_AW Try.func83 rfl Try.call83 (by decide) (show 1 ≤ 5 by decide) rfl rfl ?_
  refine aw_seq ?_
  refine aw_region (.cons (.plain rfl (c_assign rfl rfl (by decide) .nilT)) trivial rfl <| .nil) ?_
  show AW _ _ _ _ _
  refine aw_seq ?_
  obtain ⟨v1, hv1, h⟩ := bind_some h
  refine aw_region (.cons (.plain rfl (c_move rfl rfl (by decide) .tmp)) ⟨rfl, trivial⟩ rfl <| .cons (.plain rfl (c_call (ins := [.one (.t (.sl (p0.map e57))), .one (.t (.v (.int .i64 1)))]) (caps := []) rfl rfl rfl (by decide) .clo (topo_level_calls _ _ _ hv1) (.cons .tmp (.cons (.const rfl) .nil)) rfl rfl)) ⟨rfl, trivial⟩ rfl <| .cons (.plain rfl (c_assign rfl rfl (by decide) .tmp)) ⟨rfl, trivial⟩ rfl <| .nil) ?_
  show AW _ _ _ _ _
  refine aw_goes (σ' := [(.tmp 2, .m (.one (.t (.sl (v1.map e3)))))]) (Goes.into [] ⟨rfl, rfl, .refl, trivial⟩) ?_
  refine aw_ret ?_
  obtain rfl := Option.some.inj h
  exact ⟨.inr rfl, _, [], (.tmp rfl .nil), rfl, rfl, rfl, ⟨rfl, rfl, trivial⟩⟩

def runs_whole (p0_0 : List (Int × Int)) (p0_1 : Int) (p0_2 : List (Int × (List (Int)))) (p0_3 : List ((List (Int)))) (p0_4 : Int) : Option Bool := ((topo_Check p0_0).bind fun v2 => bif !decide (v2 = 0) then some true else bif decide (p0_1 < 2) then some true else some (decide (16 < p0_1)) : Option Bool).bind fun v3 => bif v3 then some false else (topo_Procs p0_0).bind fun v4 => (bits_Set_All p0_4).bind fun v5 => (slices_ContainsFunc_int v5 ((fun x0 => runs_whole_1 x0 ((v4.length : Int))))).bind fun v6 => (bif decide ((p0_2.length : Int) = (v4.length : Int)) then (topo_Nodes p0_0).bind fun v8 => bif decide ((p0_3.length : Int) = (v8.length : Int)) then bif !decide (p0_4 = 0) then some (!v6) else some false else some false else some false : Option Bool).bind fun v9 => some v9
theorem runs_whole_calls (p0_0 : List (Int × Int)) (p0_1 : Int) (p0_2 : List (Int × (List (Int)))) (p0_3 : List ((List (Int)))) (p0_4 : Int) (r : Bool) (h : runs_whole p0_0 p0_1 p0_2 p0_3 p0_4 = some r) : ACalls Try.prog 43 [.agg [.t (.sl (p0_0.map e57)), .t (.v (.int .i64 p0_1)), .t (.sl (p0_2.map e51)), .t (.sl (p0_3.map e42)), .t (.v (.int .u64 p0_4))]] [] (.one (.t (.v (.bool r)))) [] := by
  unfold runs_whole at h
  refine acalls_of_AW Try.func43 rfl Try.call43 (by decide) (show 1 ≤ 52 by decide) rfl rfl ?_
  refine aw_seq ?_
  refine aw_region (.cons (.plain rfl (k_boxN rfl rfl (by decide) .tmp rfl)) ⟨rfl, trivial⟩ rfl <| .cons (.plain rfl (c_assign rfl rfl (by decide) (.const rfl))) trivial rfl <| .nil) ?_
  show AW _ _ _ _ _
  refine aw_seq ?_
  refine aw_seq ?_
  refine aw_cut0 (fun v3 : Bool => [(.tmp 1, .m (.one (.ptr 1 0))), (.tmp 18, .m (.one (.t (.v (.bool v3))))), (.cell 1 0, .c (.t (.sl (p0_0.map e57)))), (.cell 1 1, .c (.t (.v (.int .i64 p0_1)))), (.cell 1 2, .c (.t (.sl (p0_2.map e51)))), (.cell 1 3, .c (.t (.sl (p0_3.map e42)))), (.cell 1 4, .c (.t (.v (.int .u64 p0_4))))]) h (fun _ h => ?_) (fun v3 h => ?_)
  · obtain ⟨v2, hv2, h⟩ := bind_some h
    cases hc3 : !decide (v2 = 0) with
    | true =>
      have h := of_true hc3 h
      refine aw_region (.cons (.plain rfl (k_fieldP 22 0 rfl rfl (by decide) Try.underlying33 rfl i22 (by decide) .tmp)) ⟨rfl, trivial⟩ rfl <| .cons (.plain rfl (c_loadCell rfl rfl (by decide) Try.isAgg22 .tmp)) ⟨rfl, rfl, trivial⟩ rfl <| .cons (.plain rfl (c_call (ins := [.one (.t (.sl (p0_0.map e57)))]) (caps := []) rfl rfl rfl (by decide) .clo (topo_Check_calls _ _ hv2) (.cons .tmp .nil) rfl rfl)) ⟨rfl, trivial⟩ rfl <| .cons (.plain rfl (c_neq rfl rfl (by decide) .tmp (.const rfl))) ⟨rfl, trivial⟩ rfl <| .cons (.plain rfl (c_move rfl rfl (by decide) .tmp)) ⟨rfl, trivial⟩ rfl <| .cons (.off (b' := true) rfl rfl rfl rfl (by decide)) ⟨(congrArg mB hc3), trivial⟩ rfl <| .cons (.off (b' := true) rfl rfl rfl rfl (by decide)) ⟨(congrArg mB hc3), trivial⟩ rfl <| .cons (.off (b' := true) rfl rfl rfl rfl (by decide)) ⟨(congrArg mB hc3), trivial⟩ rfl <| .cons (.plain rfl (c_pick (b := true) rfl rfl (by decide) .tmp rfl (.const rfl))) ⟨(congrArg mB hc3), trivial⟩ rfl <| .cons (.plain rfl (c_move rfl rfl (by decide) .tmp)) ⟨rfl, trivial⟩ rfl <| .cons (.off (b' := true) rfl rfl rfl rfl (by decide)) ⟨rfl, trivial⟩ rfl <| .cons (.off (b' := true) rfl rfl rfl rfl (by decide)) ⟨rfl, trivial⟩ rfl <| .cons (.off (b' := true) rfl rfl rfl rfl (by decide)) ⟨rfl, trivial⟩ rfl <| .cons (.plain rfl (c_pick (b := true) rfl rfl (by decide) .tmp rfl (.const rfl))) ⟨rfl, trivial⟩ rfl <| .nil) ?_
      obtain rfl := Option.some.inj h
      show Goes _ _
      exact (Goes.into [(1, 1)] ⟨rfl, rfl, .refl, .refl, .refl, .refl, .refl, .refl, .refl, trivial⟩)
    | false =>
      have h := of_false hc3 h
      cases hc4 : decide (p0_1 < 2) with
      | true =>
        have h := of_true hc4 h
        refine aw_region (.cons (.plain rfl (k_fieldP 22 0 rfl rfl (by decide) Try.underlying33 rfl i22 (by decide) .tmp)) ⟨rfl, trivial⟩ rfl <| .cons (.plain rfl (c_loadCell rfl rfl (by decide) Try.isAgg22 .tmp)) ⟨rfl, rfl, trivial⟩ rfl <| .cons (.plain rfl (c_call (ins := [.one (.t (.sl (p0_0.map e57)))]) (caps := []) rfl rfl rfl (by decide) .clo (topo_Check_calls _ _ hv2) (.cons .tmp .nil) rfl rfl)) ⟨rfl, trivial⟩ rfl <| .cons (.plain rfl (c_neq rfl rfl (by decide) .tmp (.const rfl))) ⟨rfl, trivial⟩ rfl <| .cons (.plain rfl (c_move rfl rfl (by decide) .tmp)) ⟨rfl, trivial⟩ rfl <| .cons (.on (t := 9) rfl rfl (k_fieldP 3 1 rfl rfl (by decide) Try.underlying33 rfl i3 (by decide) .tmp)) ⟨(congrArg mB hc3), rfl, trivial⟩ rfl <| .cons (.on (t := 9) rfl rfl (c_loadCell rfl rfl (by decide) Try.isAgg3 .tmp)) ⟨(congrArg mB hc3), rfl, rfl, trivial⟩ rfl <| .cons (.on (t := 9) rfl rfl (c_lss rfl rfl (by decide) .tmp (.const rfl))) ⟨(congrArg mB hc3), rfl, trivial⟩ rfl <| .cons (.plain rfl (c_pick (b := false) rfl rfl (by decide) .tmp rfl .tmp)) ⟨(congrArg mB hc3), rfl, trivial⟩ rfl <| .cons (.plain rfl (c_move rfl rfl (by decide) .tmp)) ⟨rfl, trivial⟩ rfl <| .cons (.off (b' := true) rfl rfl rfl rfl (by decide)) ⟨(congrArg mB hc4), trivial⟩ rfl <| .cons (.off (b' := true) rfl rfl rfl rfl (by decide)) ⟨(congrArg mB hc4), trivial⟩ rfl <| .cons (.off (b' := true) rfl rfl rfl rfl (by decide)) ⟨(congrArg mB hc4), trivial⟩ rfl <| .cons (.plain rfl (c_pick (b := true) rfl rfl (by decide) .tmp rfl (.const rfl))) ⟨(congrArg mB hc4), trivial⟩ rfl <| .nil) ?_
        obtain rfl := Option.some.inj h
        show Goes _ _
        exact (Goes.into [(1, 1)] ⟨rfl, rfl, .refl, .refl, .refl, .refl, .refl, .refl, .refl, trivial⟩)
      | false =>
        have h := of_false hc4 h
        refine aw_region (.cons (.plain rfl (k_fieldP 22 0 rfl rfl (by decide) Try.underlying33 rfl i22 (by decide) .tmp)) ⟨rfl, trivial⟩ rfl <| .cons (.plain rfl (c_loadCell rfl rfl (by decide) Try.isAgg22 .tmp)) ⟨rfl, rfl, trivial⟩ rfl <| .cons (.plain rfl (c_call (ins := [.one (.t (.sl (p0_0.map e57)))]) (caps := []) rfl rfl rfl (by decide) .clo (topo_Check_calls _ _ hv2) (.cons .tmp .nil) rfl rfl)) ⟨rfl, trivial⟩ rfl <| .cons (.plain rfl (c_neq rfl rfl (by decide) .tmp (.const rfl))) ⟨rfl, trivial⟩ rfl <| .cons (.plain rfl (c_move rfl rfl (by decide) .tmp)) ⟨rfl, trivial⟩ rfl <| .cons (.on (t := 9) rfl rfl (k_fieldP 3 1 rfl rfl (by decide) Try.underlying33 rfl i3 (by decide) .tmp)) ⟨(congrArg mB hc3), rfl, trivial⟩ rfl <| .cons (.on (t := 9) rfl rfl (c_loadCell rfl rfl (by decide) Try.isAgg3 .tmp)) ⟨(congrArg mB hc3), rfl, rfl, trivial⟩ rfl <| .cons (.on (t := 9) rfl rfl (c_lss rfl rfl (by decide) .tmp (.const rfl))) ⟨(congrArg mB hc3), rfl, trivial⟩ rfl <| .cons (.plain rfl (c_pick (b := false) rfl rfl (by decide) .tmp rfl .tmp)) ⟨(congrArg mB hc3), rfl, trivial⟩ rfl <| .cons (.plain rfl (c_move rfl rfl (by decide) .tmp)) ⟨rfl, trivial⟩ rfl <| .cons (.on (t := 14) rfl rfl (k_fieldP 3 1 rfl rfl (by decide) Try.underlying33 rfl i3 (by decide) .tmp)) ⟨(congrArg mB hc4), rfl, trivial⟩ rfl <| .cons (.on (t := 14) rfl rfl (c_loadCell rfl rfl (by decide) Try.isAgg3 .tmp)) ⟨(congrArg mB hc4), rfl, rfl, trivial⟩ rfl <| .cons (.on (t := 14) rfl rfl (c_gtr rfl rfl (by decide) .tmp (.const rfl))) ⟨(congrArg mB hc4), rfl, trivial⟩ rfl <| .cons (.plain rfl (c_pick (b := false) rfl rfl (by decide) .tmp rfl .tmp)) ⟨(congrArg mB hc4), rfl, trivial⟩ rfl <| .nil) ?_
        obtain rfl := Option.some.inj h
        show Goes _ _
        exact (Goes.into [(1, 1)] ⟨rfl, rfl, .refl, .refl, .refl, .refl, .refl, .refl, .refl, trivial⟩)
  · show AW _ _ _ _ _
    refine aw_cond .tmp ⟨rfl, trivial⟩ (fun hc5 => ?_) (fun hc5 => ?_)
    · have h := of_true hc5 h
      refine aw_seq ?_
      refine aw_region (.cons (.plain rfl (c_assign rfl rfl (by decide) (.const rfl))) trivial rfl <| .nil) ?_
      show AW _ _ _ _ _
      refine aw_goes (σ' := [(.tmp 2, .m (.one (.t (.v (.bool false)))))]) (Goes.into [] ⟨rfl, rfl, .refl, trivial⟩) ?_
      refine aw_ret ?_
      obtain rfl := Option.some.inj h
      exact ⟨.inr rfl, _, [], (.tmp rfl .nil), rfl, rfl, rfl, ⟨rfl, rfl, trivial⟩⟩
    · have h := of_false hc5 h
      refine aw_skip ?_
      show AW _ _ _ _ _
      refine aw_seq ?_
      obtain ⟨v4, hv4, h⟩ := bind_some h
      refine aw_region (.cons (.plain rfl (k_fieldP 22 0 rfl rfl (by decide) Try.underlying33 rfl i22 (by decide) .tmp)) ⟨rfl, trivial⟩ rfl <| .cons (.plain rfl (c_loadCell rfl rfl (by decide) Try.isAgg22 .tmp)) ⟨rfl, rfl, trivial⟩ rfl <| .cons (.plain rfl (c_call (ins := [.one (.t (.sl (p0_0.map e57)))]) (caps := []) rfl rfl rfl (by decide) .clo (topo_Procs_calls _ _ hv4) (.cons .tmp .nil) rfl rfl)) ⟨rfl, trivial⟩ rfl <| .cons (.plain rfl (k_len (i := Try.t3) (l := v4) (f := e3) (fun _ => rfl) (by decide) rfl rfl (by decide) Try.underlying42 (src_tree (f := e3) (fun _ => rfl) (by decide) .tmp))) ⟨rfl, trivial⟩ rfl <| .cons (.plain rfl (c_alloc rfl rfl (by decide) i3 rfl rfl rfl)) trivial rfl <| .cons (.plain rfl (c_store rfl rfl i3 rfl .tmp .tmp)) ⟨rfl, rfl, rfl, trivial⟩ rfl <| .nil) ?_
      show AW _ _ _ _ _
      refine aw_seq ?_
      refine aw_goes (Goes.freezeBox (n := 3) (cs := [.v (.int .i64 ((v4.length : Int)))]) ⟨rfl, trivial⟩) ?_
      obtain ⟨v5, hv5, h⟩ := bind_some h
      obtain ⟨v6, hv6, h⟩ := bind_some h
      refine aw_region (.cons (.plain rfl (k_fieldP 31 4 rfl rfl (by decide) Try.underlying33 rfl i31 (by decide) .tmp)) ⟨rfl, trivial⟩ rfl <| .cons (.plain rfl (c_loadCell rfl rfl (by decide) Try.isAgg31 .tmp)) ⟨rfl, rfl, trivial⟩ rfl <| .cons (.plain rfl (c_call (ins := [.one (.t (.v (.int .u64 p0_4)))]) (caps := []) rfl rfl rfl (by decide) .clo (bits_Set_All_calls _ _ hv5) (.cons .tmp .nil) rfl rfl)) ⟨rfl, trivial⟩ rfl <| .cons (.plain rfl (c_makeClo rfl rfl (by decide) (.cons .tmp .nil))) ⟨rfl, trivial⟩ rfl <| .cons (.plain rfl (c_call (ins := [.one (.t (.sl (v5.map e3))), .one (.t (.clo 82 [[.v (.int .i64 ((v4.length : Int)))]]))]) (caps := []) rfl rfl rfl (by decide) .clo (slices_ContainsFunc_int_calls _ _ (fun x0 r h => runs_whole_1_calls x0 _ r h) _ hv6) (.cons .tmp (.cons .tmp .nil)) rfl rfl)) ⟨rfl, rfl, trivial⟩ rfl <| .cons (.plain rfl (c_assign rfl rfl (by decide) .tmp)) ⟨rfl, trivial⟩ rfl <| .nil) ?_
      show AW _ _ _ _ _
      refine aw_seq ?_
      refine aw_cut0 (fun v9 : Bool => [(.tmp 2, .m (.one (.t (.v (.bool v9)))))]) h (fun _ h => ?_) (fun v9 h => ?_)
      · cases hc9 : decide ((p0_2.length : Int) = (v4.length : Int)) with
        | true =>
          have h := of_true hc9 h
          obtain ⟨v8, hv8, h⟩ := bind_some h
          cases hc10 : decide ((p0_3.length : Int) = (v8.length : Int)) with
          | true =>
            have h := of_true hc10 h
            cases hc11 : !decide (p0_4 = 0) with
            | true =>
              have h := of_true hc11 h
              refine aw_region_draw mixed (.cons (.plain rfl (k_fieldP 30 2 rfl rfl (by decide) Try.underlying33 rfl i30 (by decide) .tmp)) ⟨rfl, trivial⟩ rfl <| .cons (.plain rfl (c_loadCell rfl rfl (by decide) Try.isAgg30 .tmp)) ⟨rfl, rfl, trivial⟩ rfl <| .cons (.plain rfl (k_len (i := Try.t51) (l := p0_2) (f := e51) (fun _ => rfl) (by decide) rfl rfl (by decide) Try.underlying30 (src_tree (f := e51) (fun _ => rfl) (by decide) .tmp))) ⟨rfl, trivial⟩ rfl <| .cons (.plain rfl (c_loadTree rfl rfl (by decide) Try.isAgg3 .tmp rfl)) ⟨rfl, trivial⟩ rfl <| .cons (.plain rfl (c_eql rfl rfl (by decide) .tmp .tmp)) ⟨rfl, rfl, trivial⟩ rfl <| .cons (.plain rfl (c_move rfl rfl (by decide) .tmp)) ⟨rfl, trivial⟩ rfl <| .cons (.on (t := 33) rfl rfl (k_fieldP 24 3 rfl rfl (by decide) Try.underlying33 rfl i24 (by decide) .tmp)) ⟨(congrArg mB hc9), rfl, trivial⟩ rfl <| .cons (.on (t := 33) rfl rfl (c_loadCell rfl rfl (by decide) Try.isAgg24 .tmp)) ⟨(congrArg mB hc9), rfl, rfl, trivial⟩ rfl <| .cons (.on (t := 33) rfl rfl (k_len (i := Try.t42) (l := p0_3) (f := e42) (fun _ => rfl) (by decide) rfl rfl (by decide) Try.underlying24 (src_tree (f := e42) (fun _ => rfl) (by decide) .tmp))) ⟨(congrArg mB hc9), rfl, trivial⟩ rfl <| .cons (.on (t := 33) rfl rfl (k_fieldP 22 0 rfl rfl (by decide) Try.underlying33 rfl i22 (by decide) .tmp)) ⟨(congrArg mB hc9), rfl, trivial⟩ rfl <| .cons (.on (t := 33) rfl rfl (c_loadCell rfl rfl (by decide) Try.isAgg22 .tmp)) ⟨(congrArg mB hc9), rfl, rfl, trivial⟩ rfl <| .cons (.on (t := 33) rfl rfl (c_call (ins := [.one (.t (.sl (p0_0.map e57)))]) (caps := []) rfl rfl rfl (by decide) .clo (topo_Nodes_calls _ _ hv8) (.cons .tmp .nil) rfl rfl)) ⟨(congrArg mB hc9), rfl, trivial⟩ rfl <| .cons (.on (t := 33) rfl rfl (k_len (i := Try.t3) (l := v8) (f := e3) (fun _ => rfl) (by decide) rfl rfl (by decide) Try.underlying42 (src_tree (f := e3) (fun _ => rfl) (by decide) .tmp))) ⟨(congrArg mB hc9), rfl, trivial⟩ rfl <| .cons (.on (t := 33) rfl rfl (c_eql rfl rfl (by decide) .tmp .tmp)) ⟨(congrArg mB hc9), rfl, rfl, trivial⟩ rfl <| .cons (.plain rfl (c_pick (b := true) rfl rfl (by decide) .tmp rfl .tmp)) ⟨(congrArg mB hc9), rfl, trivial⟩ rfl <| .cons (.plain rfl (c_move rfl rfl (by decide) .tmp)) ⟨rfl, trivial⟩ rfl <| .cons (.on (t := 43) rfl rfl (k_fieldP 31 4 rfl rfl (by decide) Try.underlying33 rfl i31 (by decide) .tmp)) ⟨(congrArg mB hc10), rfl, trivial⟩ rfl <| .cons (.on (t := 43) rfl rfl (c_loadCell rfl rfl (by decide) Try.isAgg31 .tmp)) ⟨(congrArg mB hc10), rfl, rfl, trivial⟩ rfl <| .cons (.on (t := 43) rfl rfl (c_neq rfl rfl (by decide) .tmp (.const rfl))) ⟨(congrArg mB hc10), rfl, trivial⟩ rfl <| .cons (.plain rfl (c_pick (b := true) rfl rfl (by decide) .tmp rfl .tmp)) ⟨(congrArg mB hc10), rfl, trivial⟩ rfl <| .cons (.plain rfl (c_move rfl rfl (by decide) .tmp)) ⟨rfl, trivial⟩ rfl <| .cons (.on (t := 48) rfl rfl (c_move rfl rfl (by decide) .tmp)) ⟨(congrArg mB hc11), rfl, trivial⟩ rfl <| .cons (.on (t := 48) rfl rfl (c_not rfl rfl (by decide) .tmp)) ⟨(congrArg mB hc11), rfl, trivial⟩ rfl <| .cons (.plain rfl (c_pick (b := true) rfl rfl (by decide) .tmp rfl .tmp)) ⟨(congrArg mB hc11), rfl, trivial⟩ rfl <| .cons (.plain rfl (c_assign rfl rfl (by decide) .tmp)) ⟨rfl, trivial⟩ rfl <| .nil) rfl rfl ?_
              obtain rfl := Option.some.inj h
              show Goes _ _
              exact (Goes.into [] ⟨rfl, rfl, .refl, trivial⟩)
            | false =>
              have h := of_false hc11 h
              refine aw_region_draw mixed (.cons (.plain rfl (k_fieldP 30 2 rfl rfl (by decide) Try.underlying33 rfl i30 (by decide) .tmp)) ⟨rfl, trivial⟩ rfl <| .cons (.plain rfl (c_loadCell rfl rfl (by decide) Try.isAgg30 .tmp)) ⟨rfl, rfl, trivial⟩ rfl <| .cons (.plain rfl (k_len (i := Try.t51) (l := p0_2) (f := e51) (fun _ => rfl) (by decide) rfl rfl (by decide) Try.underlying30 (src_tree (f := e51) (fun _ => rfl) (by decide) .tmp))) ⟨rfl, trivial⟩ rfl <| .cons (.plain rfl (c_loadTree rfl rfl (by decide) Try.isAgg3 .tmp rfl)) ⟨rfl, trivial⟩ rfl <| .cons (.plain rfl (c_eql rfl rfl (by decide) .tmp .tmp)) ⟨rfl, rfl, trivial⟩ rfl <| .cons (.plain rfl (c_move rfl rfl (by decide) .tmp)) ⟨rfl, trivial⟩ rfl <| .cons (.on (t := 33) rfl rfl (k_fieldP 24 3 rfl rfl (by decide) Try.underlying33 rfl i24 (by decide) .tmp)) ⟨(congrArg mB hc9), rfl, trivial⟩ rfl <| .cons (.on (t := 33) rfl rfl (c_loadCell rfl rfl (by decide) Try.isAgg24 .tmp)) ⟨(congrArg mB hc9), rfl, rfl, trivial⟩ rfl <| .cons (.on (t := 33) rfl rfl (k_len (i := Try.t42) (l := p0_3) (f := e42) (fun _ => rfl) (by decide) rfl rfl (by decide) Try.underlying24 (src_tree (f := e42) (fun _ => rfl) (by decide) .tmp))) ⟨(congrArg mB hc9), rfl, trivial⟩ rfl <| .cons (.on (t := 33) rfl rfl (k_fieldP 22 0 rfl rfl (by decide) Try.underlying33 rfl i22 (by decide) .tmp)) ⟨(congrArg mB hc9), rfl, trivial⟩ rfl <| .cons (.on (t := 33) rfl rfl (c_loadCell rfl rfl (by decide) Try.isAgg22 .tmp)) ⟨(congrArg mB hc9), rfl, rfl, trivial⟩ rfl <| .cons (.on (t := 33) rfl rfl (c_call (ins := [.one (.t (.sl (p0_0.map e57)))]) (caps := []) rfl rfl rfl (by decide) .clo (topo_Nodes_calls _ _ hv8) (.cons .tmp .nil) rfl rfl)) ⟨(congrArg mB hc9), rfl, trivial⟩ rfl <| .cons (.on (t := 33) rfl rfl (k_len (i := Try.t3) (l := v8) (f := e3) (fun _ => rfl) (by decide) rfl rfl (by decide) Try.underlying42 (src_tree (f := e3) (fun _ => rfl) (by decide) .tmp))) ⟨(congrArg mB hc9), rfl, trivial⟩ rfl <| .cons (.on (t := 33) rfl rfl (c_eql rfl rfl (by decide) .tmp .tmp)) ⟨(congrArg mB hc9), rfl, rfl, trivial⟩ rfl <| .cons (.plain rfl (c_pick (b := true) rfl rfl (by decide) .tmp rfl .tmp)) ⟨(congrArg mB hc9), rfl, trivial⟩ rfl <| .cons (.plain rfl (c_move rfl rfl (by decide) .tmp)) ⟨rfl, trivial⟩ rfl <| .cons (.on (t := 43) rfl rfl (k_fieldP 31 4 rfl rfl (by decide) Try.underlying33 rfl i31 (by decide) .tmp)) ⟨(congrArg mB hc10), rfl, trivial⟩ rfl <| .cons (.on (t := 43) rfl rfl (c_loadCell rfl rfl (by decide) Try.isAgg31 .tmp)) ⟨(congrArg mB hc10), rfl, rfl, trivial⟩ rfl <| .cons (.on (t := 43) rfl rfl (c_neq rfl rfl (by decide) .tmp (.const rfl))) ⟨(congrArg mB hc10), rfl, trivial⟩ rfl <| .cons (.plain rfl (c_pick (b := true) rfl rfl (by decide) .tmp rfl .tmp)) ⟨(congrArg mB hc10), rfl, trivial⟩ rfl <| .cons (.plain rfl (c_move rfl rfl (by decide) .tmp)) ⟨rfl, trivial⟩ rfl <| .cons (.off (b' := false) rfl rfl rfl rfl (by decide)) ⟨(congrArg mB hc11), trivial⟩ rfl <| .cons (.off (b' := false) rfl rfl rfl rfl (by decide)) ⟨(congrArg mB hc11), trivial⟩ rfl <| .cons (.plain rfl (c_pick (b := false) rfl rfl (by decide) .tmp rfl (.const rfl))) ⟨(congrArg mB hc11), trivial⟩ rfl <| .cons (.plain rfl (c_assign rfl rfl (by decide) .tmp)) ⟨rfl, trivial⟩ rfl <| .nil) rfl rfl ?_
              obtain rfl := Option.some.inj h
              show Goes _ _
              exact (Goes.into [] ⟨rfl, rfl, .refl, trivial⟩)
          | false =>
            have h := of_false hc10 h
            refine aw_region_draw mixed (.cons (.plain rfl (k_fieldP 30 2 rfl rfl (by decide) Try.underlying33 rfl i30 (by decide) .tmp)) ⟨rfl, trivial⟩ rfl <| .cons (.plain rfl (c_loadCell rfl rfl (by decide) Try.isAgg30 .tmp)) ⟨rfl, rfl, trivial⟩ rfl <| .cons (.plain rfl (k_len (i := Try.t51) (l := p0_2) (f := e51) (fun _ => rfl) (by decide) rfl rfl (by decide) Try.underlying30 (src_tree (f := e51) (fun _ => rfl) (by decide) .tmp))) ⟨rfl, trivial⟩ rfl <| .cons (.plain rfl (c_loadTree rfl rfl (by decide) Try.isAgg3 .tmp rfl)) ⟨rfl, trivial⟩ rfl <| .cons (.plain rfl (c_eql rfl rfl (by decide) .tmp .tmp)) ⟨rfl, rfl, trivial⟩ rfl <| .cons (.plain rfl (c_move rfl rfl (by decide) .tmp)) ⟨rfl, trivial⟩ rfl <| .cons (.on (t := 33) rfl rfl (k_fieldP 24 3 rfl rfl (by decide) Try.underlying33 rfl i24 (by decide) .tmp)) ⟨(congrArg mB hc9), rfl, trivial⟩ rfl <| .cons (.on (t := 33) rfl rfl (c_loadCell rfl rfl (by decide) Try.isAgg24 .tmp)) ⟨(congrArg mB hc9), rfl, rfl, trivial⟩ rfl <| .cons (.on (t := 33) rfl rfl (k_len (i := Try.t42) (l := p0_3) (f := e42) (fun _ => rfl) (by decide) rfl rfl (by decide) Try.underlying24 (src_tree (f := e42) (fun _ => rfl) (by decide) .tmp))) ⟨(congrArg mB hc9), rfl, trivial⟩ rfl <| .cons (.on (t := 33) rfl rfl (k_fieldP 22 0 rfl rfl (by decide) Try.underlying33 rfl i22 (by decide) .tmp)) ⟨(congrArg mB hc9), rfl, trivial⟩ rfl <| .cons (.on (t := 33) rfl rfl (c_loadCell rfl rfl (by decide) Try.isAgg22 .tmp)) ⟨(congrArg mB hc9), rfl, rfl, trivial⟩ rfl <| .cons (.on (t := 33) rfl rfl (c_call (ins := [.one (.t (.sl (p0_0.map e57)))]) (caps := []) rfl rfl rfl (by decide) .clo (topo_Nodes_calls _ _ hv8) (.cons .tmp .nil) rfl rfl)) ⟨(congrArg mB hc9), rfl, trivial⟩ rfl <| .cons (.on (t := 33) rfl rfl (k_len (i := Try.t3) (l := v8) (f := e3) (fun _ => rfl) (by decide) rfl rfl (by decide) Try.underlying42 (src_tree (f := e3) (fun _ => rfl) (by decide) .tmp))) ⟨(congrArg mB hc9), rfl, trivial⟩ rfl <| .cons (.on (t := 33) rfl rfl (c_eql rfl rfl (by decide) .tmp .tmp)) ⟨(congrArg mB hc9), rfl, rfl, trivial⟩ rfl <| .cons (.plain rfl (c_pick (b := true) rfl rfl (by decide) .tmp rfl .tmp)) ⟨(congrArg mB hc9), rfl, trivial⟩ rfl <| .cons (.plain rfl (c_move rfl rfl (by decide) .tmp)) ⟨rfl, trivial⟩ rfl <| .cons (.off (b' := false) rfl rfl rfl rfl (by decide)) ⟨(congrArg mB hc10), trivial⟩ rfl <| .cons (.off (b' := false) rfl rfl rfl rfl (by decide)) ⟨(congrArg mB hc10), trivial⟩ rfl <| .cons (.off (b' := false) rfl rfl rfl rfl (by decide)) ⟨(congrArg mB hc10), trivial⟩ rfl <| .cons (.plain rfl (c_pick (b := false) rfl rfl (by decide) .tmp rfl (.const rfl))) ⟨(congrArg mB hc10), trivial⟩ rfl <| .cons (.plain rfl (c_move rfl rfl (by decide) .tmp)) ⟨rfl, trivial⟩ rfl <| .cons (.off (b' := false) rfl rfl rfl rfl (by decide)) ⟨rfl, trivial⟩ rfl <| .cons (.off (b' := false) rfl rfl rfl rfl (by decide)) ⟨rfl, trivial⟩ rfl <| .cons (.plain rfl (c_pick (b := false) rfl rfl (by decide) .tmp rfl (.const rfl))) ⟨rfl, trivial⟩ rfl <| .cons (.plain rfl (c_assign rfl rfl (by decide) .tmp)) ⟨rfl, trivial⟩ rfl <| .nil) rfl rfl ?_
            obtain rfl := Option.some.inj h
            show Goes _ _
            exact (Goes.into [] ⟨rfl, rfl, .refl, trivial⟩)
        | false =>
          have h := of_false hc9 h
          refine aw_region_draw mixed (.cons (.plain rfl (k_fieldP 30 2 rfl rfl (by decide) Try.underlying33 rfl i30 (by decide) .tmp)) ⟨rfl, trivial⟩ rfl <| .cons (.plain rfl (c_loadCell rfl rfl (by decide) Try.isAgg30 .tmp)) ⟨rfl, rfl, trivial⟩ rfl <| .cons (.plain rfl (k_len (i := Try.t51) (l := p0_2) (f := e51) (fun _ => rfl) (by decide) rfl rfl (by decide) Try.underlying30 (src_tree (f := e51) (fun _ => rfl) (by decide) .tmp))) ⟨rfl, trivial⟩ rfl <| .cons (.plain rfl (c_loadTree rfl rfl (by decide) Try.isAgg3 .tmp rfl)) ⟨rfl, trivial⟩ rfl <| .cons (.plain rfl (c_eql rfl rfl (by decide) .tmp .tmp)) ⟨rfl, rfl, trivial⟩ rfl <| .cons (.plain rfl (c_move rfl rfl (by decide) .tmp)) ⟨rfl, trivial⟩ rfl <| .cons (.off (b' := false) rfl rfl rfl rfl (by decide)) ⟨(congrArg mB hc9), trivial⟩ rfl <| .cons (.off (b' := false) rfl rfl rfl rfl (by decide)) ⟨(congrArg mB hc9), trivial⟩ rfl <| .cons (.off (b' := false) rfl rfl rfl rfl (by decide)) ⟨(congrArg mB hc9), trivial⟩ rfl <| .cons (.off (b' := false) rfl rfl rfl rfl (by decide)) ⟨(congrArg mB hc9), trivial⟩ rfl <| .cons (.off (b' := false) rfl rfl rfl rfl (by decide)) ⟨(congrArg mB hc9), trivial⟩ rfl <| .cons (.off (b' := false) rfl rfl rfl rfl (by decide)) ⟨(congrArg mB hc9), trivial⟩ rfl <| .cons (.off (b' := false) rfl rfl rfl rfl (by decide)) ⟨(congrArg mB hc9), trivial⟩ rfl <| .cons (.off (b' := false) rfl rfl rfl rfl (by decide)) ⟨(congrArg mB hc9), trivial⟩ rfl <| .cons (.plain rfl (c_pick (b := false) rfl rfl (by decide) .tmp rfl (.const rfl))) ⟨(congrArg mB hc9), trivial⟩ rfl <| .cons (.plain rfl (c_move rfl rfl (by decide) .tmp)) ⟨rfl, trivial⟩ rfl <| .cons (.off (b' := false) rfl rfl rfl rfl (by decide)) ⟨rfl, trivial⟩ rfl <| .cons (.off (b' := false) rfl rfl rfl rfl (by decide)) ⟨rfl, trivial⟩ rfl <| .cons (.off (b' := false) rfl rfl rfl rfl (by decide)) ⟨rfl, trivial⟩ rfl <| .cons (.plain rfl (c_pick (b := false) rfl rfl (by decide) .tmp rfl (.const rfl))) ⟨rfl, trivial⟩ rfl <| .cons (.plain rfl (c_move rfl rfl (by decide) .tmp)) ⟨rfl, trivial⟩ rfl <| .cons (.off (b' := false) rfl rfl rfl rfl (by decide)) ⟨rfl, trivial⟩ rfl <| .cons (.off (b' := false) rfl rfl rfl rfl (by decide)) ⟨rfl, trivial⟩ rfl <| .cons (.plain rfl (c_pick (b := false) rfl rfl (by decide) .tmp rfl (.const rfl))) ⟨rfl, trivial⟩ rfl <| .cons (.plain rfl (c_assign rfl rfl (by decide) .tmp)) ⟨rfl, trivial⟩ rfl <| .nil) rfl rfl ?_
          obtain rfl := Option.some.inj h
          show Goes _ _
          exact (Goes.into [] ⟨rfl, rfl, .refl, trivial⟩)
      · show AW _ _ _ _ _
        refine aw_goes (σ' := [(.tmp 2, .m (.one (.t (.v (.bool v9)))))]) (Goes.into [] ⟨rfl, rfl, .refl, trivial⟩) ?_
        refine aw_ret ?_
        obtain rfl := Option.some.inj h
        exact ⟨.inr rfl, _, [], (.tmp rfl .nil), rfl, rfl, rfl, ⟨rfl, rfl, trivial⟩⟩

def slices_Index_int_L1 (p0 : List (Int)) (p1 : Int) (v5 : Int) : Option (Int ⊕ (Unit ⊕ Int)) := bif decide (v5 < (p0.length : Int)) then (at_ p0 v5).bind fun v7 => bif decide (p1 = v7) then some (.inr (.inr v5)) else some (.inl (wi64 (v5 + 1))) else some (.inr (.inl (())))
def slices_Index_int (p0 : List (Int)) (p1 : Int) : Option Int := (loopO (slices_Index_int_L1 p0 p1) fuel 0).bind fun s => s.elim (fun v6 => some ((-1))) (fun j : Int => some j)
theorem slices_Index_int_calls (p0 : List (Int)) (p1 : Int) (r : Int) (h : slices_Index_int p0 p1 = some r) : ACalls Try.prog 84 [.one (.t (.sl (p0.map e3))), .one (.t (.v (.int .i64 p1)))] [] (.one (.t (.v (.int .i64 r)))) [] := by
  unfold slices_Index_int at h
  refine acalls_of_AW Try.func84 rfl Try.call84 (by decide) (show 2 ≤ 19 by decide) rfl rfl ?_
  refine aw_seq ?_
  refine aw_region (.cons (.plain rfl (c_assign rfl rfl (by decide) (.const rfl))) trivial rfl <| .nil) ?_
  show AW _ _ _ _ _
  refine aw_seq ?_
  refine aw_seq ?_
  refine aw_region (.cons (.plain rfl (c_move rfl rfl (by decide) .tmp)) ⟨rfl, trivial⟩ rfl <| .cons (.plain rfl (k_len (i := Try.t3) (l := p0) (f := e3) (fun _ => rfl) (by decide) rfl rfl (by decide) Try.underlying42 (src_tree (f := e3) (fun _ => rfl) (by decide) .tmp))) ⟨rfl, trivial⟩ rfl <| .cons (.plain rfl (c_move rfl rfl (by decide) (.const rfl))) trivial rfl <| .nil) ?_
  show AW _ _ _ _ _
  refine aw_loopJ (fun v5 : Int => [(.tmp 0, .m (.one (.t (.sl (p0.map e3))))), (.tmp 1, .m (.one (.t (.v (.int .i64 p1))))), (.tmp 7, .m (.one (.t (.v (.int .i64 ((p0.length : Int))))))), (.tmp 8, .m (.one (.t (.v (.int .i64 v5)))))]) (fun v6 : Unit => []) h (Goes.into [] ⟨rfl, rfl, .refl, .refl, .refl, .refl, trivial⟩) (fun v5 _ h => ?_) (fun v6 h => ?_)
  · unfold slices_Index_int_L1 at h
    refine aw_seq ?_
    refine aw_region (.cons (.plain rfl (c_lss rfl rfl (by decide) .tmp .tmp)) ⟨rfl, rfl, trivial⟩ rfl <| .nil) ?_
    show AW _ _ _ _ _
    refine aw_seq ?_
    refine aw_cond .tmp ⟨rfl, trivial⟩ (fun hc5 => ?_) (fun hc5 => ?_)
    · have h := of_true hc5 h
      refine aw_skip ?_
      show AW _ _ _ _ _
      refine aw_seq ?_
      refine aw_block ?_
      refine aw_seq ?_
      refine aw_region (.cons (.plain rfl (c_move rfl rfl (by decide) .tmp)) ⟨rfl, trivial⟩ rfl <| .cons (.plain rfl (c_assign rfl rfl (by decide) .tmp)) ⟨rfl, trivial⟩ rfl <| .nil) ?_
      show AW _ _ _ _ _
      refine aw_seq ?_
      obtain ⟨v7, hv7, h⟩ := bind_some h
      refine aw_region (.cons (.plain rfl (c_move rfl rfl (by decide) .tmp)) ⟨rfl, trivial⟩ rfl <| .cons (.plain rfl (c_move rfl rfl (by decide) .tmp)) ⟨rfl, trivial⟩ rfl <| .cons (.plain rfl (c_move rfl rfl (by decide) .tmp)) ⟨rfl, trivial⟩ rfl <| .cons (.plain rfl (k_index (f := e3) (i := Try.t3) hv7 rfl rfl rfl (by decide) Try.underlying42 i3 .tmp .tmp)) ⟨rfl, rfl, trivial⟩ rfl <| .cons (.plain rfl (c_loadTree rfl rfl (by decide) Try.isAgg3 .tmp rfl)) ⟨rfl, trivial⟩ rfl <| .cons (.plain rfl (c_eql rfl rfl (by decide) .tmp .tmp)) ⟨rfl, rfl, trivial⟩ rfl <| .nil) ?_
      show AW _ _ _ _ _
      refine aw_cond .tmp ⟨rfl, trivial⟩ (fun hc6 => ?_) (fun hc6 => ?_)
      · have h := of_true hc6 h
        refine aw_seq ?_
        refine aw_region (.cons (.plain rfl (c_move rfl rfl (by decide) .tmp)) ⟨rfl, trivial⟩ rfl <| .cons (.plain rfl (c_assign rfl rfl (by decide) .tmp)) ⟨rfl, trivial⟩ rfl <| .nil) ?_
        show AW _ _ _ _ _
        refine aw_goes (σ' := [(.tmp 4, .m (.one (.t (.v (.int .i64 v5)))))]) (Goes.into [] ⟨rfl, rfl, .refl, trivial⟩) ?_
        refine aw_ret ?_
        obtain rfl := Option.some.inj h
        refine ⟨_, rfl, fun h => ?_⟩
        obtain rfl := Option.some.inj h
        exact ⟨.inr rfl, _, [], (.tmp rfl .nil), rfl, rfl, rfl, ⟨rfl, rfl, trivial⟩⟩
      · have h := of_false hc6 h
        refine aw_skip ?_
        show AW _ _ _ _ _
        refine aw_region (.cons (.plain rfl (c_add rfl rfl (by decide) .tmp (.const rfl))) ⟨rfl, trivial⟩ rfl <| .cons (.plain rfl (c_move rfl rfl (by decide) .tmp)) ⟨rfl, trivial⟩ rfl <| .nil) ?_
        obtain rfl := Option.some.inj h
        exact ⟨_, rfl, (Goes.into [] ⟨rfl, rfl, .refl, .refl, .refl, .refl, trivial⟩)⟩
    · have h := of_false hc5 h
      refine aw_exit ?_
      obtain rfl := Option.some.inj h
      exact ⟨_, rfl, (Goes.into [] ⟨rfl, rfl, trivial⟩)⟩
  · show AW _ _ _ _ _
    refine aw_seq ?_
    refine aw_region (.cons (.plain rfl (c_assign rfl rfl (by decide) (.const rfl))) trivial rfl <| .nil) ?_
    show AW _ _ _ _ _
    refine aw_goes (σ' := [(.tmp 4, .m (.one (.t (.v (.int .i64 ((-1)))))))]) (Goes.into [] ⟨rfl, rfl, .refl, trivial⟩) ?_
    refine aw_ret ?_
    obtain rfl := Option.some.inj h
    exact ⟨.inr rfl, _, [], (.tmp rfl .nil), rfl, rfl, rfl, ⟨rfl, rfl, trivial⟩⟩

def slices_Contains_int (p0 : List (Int)) (p1 : Int) : Option Bool := (slices_Index_int p0 p1).bind fun v1 => some (decide (0 ≤ v1))
theorem slices_Contains_int_calls (p0 : List (Int)) (p1 : Int) (r : Bool) (h : slices_Contains_int p0 p1 = some r) : ACalls Try.prog 45 [.one (.t (.sl (p0.map e3))), .one (.t (.v (.int .i64 p1)))] [] (.one (.t (.v (.bool r)))) [] := by
  unfold slices_Contains_int at h
  refine acalls_of_AW Try.func45 rfl Try.call45 (by decide) (show 2 ≤ 9 by decide) rfl rfl ?_
  refine aw_seq ?_
  refine aw_region (.cons (.plain rfl (c_assign rfl rfl (by decide) (.const rfl))) trivial rfl <| .nil) ?_
  show AW _ _ _ _ _
  refine aw_seq ?_
  obtain ⟨v1, hv1, h⟩ := bind_some h
  refine aw_region (.cons (.plain rfl (c_move rfl rfl (by decide) .tmp)) ⟨rfl, trivial⟩ rfl <| .cons (.plain rfl (c_move rfl rfl (by decide) .tmp)) ⟨rfl, trivial⟩ rfl <| .cons (.plain rfl (c_call (ins := [.one (.t (.sl (p0.map e3))), .one (.t (.v (.int .i64 p1)))]) (caps := []) rfl rfl rfl (by decide) .clo (slices_Index_int_calls _ _ _ hv1) (.cons .tmp (.cons .tmp .nil)) rfl rfl)) ⟨rfl, rfl, trivial⟩ rfl <| .cons (.plain rfl (c_geq rfl rfl (by decide) .tmp (.const rfl))) ⟨rfl, trivial⟩ rfl <| .cons (.plain rfl (c_assign rfl rfl (by decide) .tmp)) ⟨rfl, trivial⟩ rfl <| .nil) ?_
  show AW _ _ _ _ _
  refine aw_goes (σ' := [(.tmp 4, .m (.one (.t (.v (.bool (decide (0 ≤ v1)))))))]) (Goes.into [] ⟨rfl, rfl, .refl, trivial⟩) ?_
  refine aw_ret ?_
  obtain rfl := Option.some.inj h
  exact ⟨.inr rfl, _, [], (.tmp rfl .nil), rfl, rfl, rfl, ⟨rfl, rfl, trivial⟩⟩

def ring_May_L1 (v1 : List (Int)) (v16 : Int) : Option (Int ⊕ (Unit ⊕ Bool)) := bif decide (v16 < (v1.length : Int)) then (at_ v1 v16).bind fun v18 => (bif decide (v18 ≤ 0) then some true else (take_ v1 v16).bind fun v21 => (slices_Contains_int v21 v18).bind fun v22 => some v22 : Option Bool).bind fun v23 => bif v23 then some (.inr (.inr false)) else some (.inl (wi64 (v16 + 1))) else some (.inr (.inl (())))
def ring_May (p0_0 : Int) (p0_1 : List (Int)) (p1 : Int) : Option Bool := (ring_All p0_0 p0_1).bind fun v1 => (loopO (ring_May_L1 v1) fuel 0).bind fun s => s.elim (fun v17 => some (decide ((p0_1.length : Int) ≤ (if 2 > p1 then 2 else p1)))) (fun j : Bool => some j)
theorem ring_May_calls (p0_0 : Int) (p0_1 : List (Int)) (p1 : Int) (r : Bool) (h : ring_May p0_0 p0_1 p1 = some r) : ACalls Try.prog 44 [.agg [.t (.v (.int .i64 p0_0)), .t (.sl (p0_1.map e3))], .one (.t (.v (.int .i64 p1)))] [] (.one (.t (.v (.bool r)))) [] := by
  unfold ring_May at h
  refine acalls_of_AW Try.func44 rfl Try.call44 (by decide) (show 2 ≤ 33 by decide) rfl rfl ?_
  refine aw_seq ?_
  refine aw_region (.cons (.plain rfl (k_boxN rfl rfl (by decide) .tmp rfl)) ⟨rfl, trivial⟩ rfl <| .cons (.plain rfl (c_assign rfl rfl (by decide) (.const rfl))) trivial rfl <| .nil) ?_
  show AW _ _ _ _ _
  refine aw_seq ?_
  obtain ⟨v1, hv1, h⟩ := bind_some h
  refine aw_region (.cons (.plain rfl (c_loadBox (cs := [.t (.v (.int .i64 p0_0)), .t (.sl (p0_1.map e3))]) rfl rfl (by decide) Try.isAgg51 i51 rfl .tmp)) ⟨rfl, rfl, rfl, trivial⟩ rfl <| .cons (.plain rfl (c_call (ins := [.agg [.t (.v (.int .i64 p0_0)), .t (.sl (p0_1.map e3))]]) (caps := []) rfl rfl rfl (by decide) .clo (ring_All_calls _ _ _ hv1) (.cons .tmp .nil) rfl rfl)) ⟨rfl, trivial⟩ rfl <| .cons (.plain rfl (c_assign rfl rfl (by decide) .tmp)) ⟨rfl, trivial⟩ rfl <| .nil) ?_
  show AW _ _ _ _ _
  refine aw_seq ?_
  refine aw_seq ?_
  refine aw_region (.cons (.plain rfl (c_move rfl rfl (by decide) .tmp)) ⟨rfl, trivial⟩ rfl <| .cons (.plain rfl (k_len (i := Try.t3) (l := v1) (f := e3) (fun _ => rfl) (by decide) rfl rfl (by decide) Try.underlying42 (src_tree (f := e3) (fun _ => rfl) (by decide) .tmp))) ⟨rfl, trivial⟩ rfl <| .cons (.plain rfl (c_move rfl rfl (by decide) (.const rfl))) trivial rfl <| .nil) ?_
  show AW _ _ _ _ _
  refine aw_loopJ (fun v16 : Int => [(.tmp 1, .m (.one (.t (.v (.int .i64 p1))))), (.tmp 2, .m (.one (.ptr 2 0))), (.tmp 5, .m (.one (.t (.sl (v1.map e3))))), (.tmp 10, .m (.one (.t (.sl (v1.map e3))))), (.tmp 11, .m (.one (.t (.v (.int .i64 ((v1.length : Int))))))), (.tmp 12, .m (.one (.t (.v (.int .i64 v16))))), (.cell 2 0, .c (.t (.v (.int .i64 p0_0)))), (.cell 2 1, .c (.t (.sl (p0_1.map e3))))]) (fun v17 : Unit => [(.tmp 1, .m (.one (.t (.v (.int .i64 p1))))), (.tmp 2, .m (.one (.ptr 2 0))), (.cell 2 0, .c (.t (.v (.int .i64 p0_0)))), (.cell 2 1, .c (.t (.sl (p0_1.map e3))))]) h (Goes.into [(2, 2)] ⟨rfl, rfl, .refl, .refl, .refl, .refl, .refl, .refl, .refl, .refl, trivial⟩) (fun v16 _ h => ?_) (fun v17 h => ?_)
  · unfold ring_May_L1 at h
    refine aw_seq ?_
    refine aw_region (.cons (.plain rfl (c_lss rfl rfl (by decide) .tmp .tmp)) ⟨rfl, rfl, trivial⟩ rfl <| .nil) ?_
    show AW _ _ _ _ _
    refine aw_seq ?_
    refine aw_cond .tmp ⟨rfl, trivial⟩ (fun hc9 => ?_) (fun hc9 => ?_)
    · have h := of_true hc9 h
      refine aw_skip ?_
      show AW _ _ _ _ _
      refine aw_seq ?_
      refine aw_block ?_
      refine aw_seq ?_
      obtain ⟨v18, hv18, h⟩ := bind_some h
      refine aw_region (.cons (.plain rfl (c_move rfl rfl (by decide) .tmp)) ⟨rfl, trivial⟩ rfl <| .cons (.plain rfl (k_index (f := e3) (i := Try.t3) hv18 rfl rfl rfl (by decide) Try.underlying42 i3 .tmp .tmp)) ⟨rfl, rfl, trivial⟩ rfl <| .cons (.plain rfl (c_loadTree rfl rfl (by decide) Try.isAgg3 .tmp rfl)) ⟨rfl, trivial⟩ rfl <| .cons (.plain rfl (c_assign rfl rfl (by decide) .tmp)) ⟨rfl, trivial⟩ rfl <| .cons (.plain rfl (c_assign rfl rfl (by decide) .tmp)) ⟨rfl, trivial⟩ rfl <| .nil) ?_
      show AW _ _ _ _ _
      refine aw_seq ?_
      refine aw_cut0 (fun v23 : Bool => [(.tmp 1, .m (.one (.t (.v (.int .i64 p1))))), (.tmp 2, .m (.one (.ptr 2 0))), (.tmp 5, .m (.one (.t (.sl (v1.map e3))))), (.tmp 10, .m (.one (.t (.sl (v1.map e3))))), (.tmp 11, .m (.one (.t (.v (.int .i64 ((v1.length : Int))))))), (.tmp 12, .m (.one (.t (.v (.int .i64 v16))))), (.tmp 25, .m (.one (.t (.v (.bool v23))))), (.cell 2 0, .c (.t (.v (.int .i64 p0_0)))), (.cell 2 1, .c (.t (.sl (p0_1.map e3))))]) h (fun _ h => ?_) (fun v23 h => ?_)
      · cases hc11 : decide (v18 ≤ 0) with
        | true =>
          have h := of_true hc11 h
          refine aw_region (.cons (.plain rfl (c_move rfl rfl (by decide) .tmp)) ⟨rfl, trivial⟩ rfl <| .cons (.plain rfl (c_leq rfl rfl (by decide) .tmp (.const rfl))) ⟨rfl, trivial⟩ rfl <| .cons (.plain rfl (c_move rfl rfl (by decide) .tmp)) ⟨rfl, trivial⟩ rfl <| .cons (.off (b' := true) rfl rfl rfl rfl (by decide)) ⟨(congrArg mB hc11), trivial⟩ rfl <| .cons (.off (b' := true) rfl rfl rfl rfl (by decide)) ⟨(congrArg mB hc11), trivial⟩ rfl <| .cons (.off (b' := true) rfl rfl rfl rfl (by decide)) ⟨(congrArg mB hc11), trivial⟩ rfl <| .cons (.off (b' := true) rfl rfl rfl rfl (by decide)) ⟨(congrArg mB hc11), trivial⟩ rfl <| .cons (.off (b' := true) rfl rfl rfl rfl (by decide)) ⟨(congrArg mB hc11), trivial⟩ rfl <| .cons (.plain rfl (c_pick (b := true) rfl rfl (by decide) .tmp rfl (.const rfl))) ⟨(congrArg mB hc11), trivial⟩ rfl <| .nil) ?_
          obtain rfl := Option.some.inj h
          show Goes _ _
          exact (Goes.into [(2, 2)] ⟨rfl, rfl, .refl, .refl, .refl, .refl, .refl, .refl, .refl, .refl, .refl, trivial⟩)
        | false =>
          have h := of_false hc11 h
          obtain ⟨v21, hv21, h⟩ := bind_some h
          obtain ⟨v22, hv22, h⟩ := bind_some h
          refine aw_region (.cons (.plain rfl (c_move rfl rfl (by decide) .tmp)) ⟨rfl, trivial⟩ rfl <| .cons (.plain rfl (c_leq rfl rfl (by decide) .tmp (.const rfl))) ⟨rfl, trivial⟩ rfl <| .cons (.plain rfl (c_move rfl rfl (by decide) .tmp)) ⟨rfl, trivial⟩ rfl <| .cons (.on (t := 19) rfl rfl (c_move rfl rfl (by decide) .tmp)) ⟨(congrArg mB hc11), rfl, trivial⟩ rfl <| .cons (.on (t := 19) rfl rfl (c_move rfl rfl (by decide) .tmp)) ⟨(congrArg mB hc11), rfl, trivial⟩ rfl <| .cons (.on (t := 19) rfl rfl (k_sliceH (f := e3) (i := Try.t3) hv21 (fun _ => rfl) rfl rfl (by decide) Try.underlying42 i3 (.tree .tmp) .tmp)) ⟨(congrArg mB hc11), rfl, rfl, trivial⟩ rfl <| .cons (.on (t := 19) rfl rfl (c_move rfl rfl (by decide) .tmp)) ⟨(congrArg mB hc11), rfl, trivial⟩ rfl <| .cons (.on (t := 19) rfl rfl (c_call (ins := [.one (.t (.sl (v21.map e3))), .one (.t (.v (.int .i64 v18)))]) (caps := []) rfl rfl rfl (by decide) .clo (slices_Contains_int_calls _ _ _ hv22) (.cons .tmp (.cons .tmp .nil)) rfl rfl)) ⟨(congrArg mB hc11), rfl, rfl, trivial⟩ rfl <| .cons (.plain rfl (c_pick (b := false) rfl rfl (by decide) .tmp rfl .tmp)) ⟨(congrArg mB hc11), rfl, trivial⟩ rfl <| .nil) ?_
          obtain rfl := Option.some.inj h
          show Goes _ _
          exact (Goes.into [(2, 2)] ⟨rfl, rfl, .refl, .refl, .refl, .refl, .refl, .refl, .refl, .refl, .refl, trivial⟩)
      · show AW _ _ _ _ _
        refine aw_cond .tmp ⟨rfl, trivial⟩ (fun hc12 => ?_) (fun hc12 => ?_)
        · have h := of_true hc12 h
          refine aw_seq ?_
          refine aw_region (.cons (.plain rfl (c_assign rfl rfl (by decide) (.const rfl))) trivial rfl <| .nil) ?_
          show AW _ _ _ _ _
          refine aw_goes (σ' := [(.tmp 4, .m (.one (.t (.v (.bool false)))))]) (Goes.into [] ⟨rfl, rfl, .refl, trivial⟩) ?_
          refine aw_ret ?_
          obtain rfl := Option.some.inj h
          refine ⟨_, rfl, fun h => ?_⟩
          obtain rfl := Option.some.inj h
          exact ⟨.inr rfl, _, [], (.tmp rfl .nil), rfl, rfl, rfl, ⟨rfl, rfl, trivial⟩⟩
        · have h := of_false hc12 h
          refine aw_skip ?_
          show AW _ _ _ _ _
          refine aw_region (.cons (.plain rfl (c_add rfl rfl (by decide) .tmp (.const rfl))) ⟨rfl, trivial⟩ rfl <| .cons (.plain rfl (c_move rfl rfl (by decide) .tmp)) ⟨rfl, trivial⟩ rfl <| .nil) ?_
          obtain rfl := Option.some.inj h
          exact ⟨_, rfl, (Goes.into [(2, 2)] ⟨rfl, rfl, .refl, .refl, .refl, .refl, .refl, .refl, .refl, .refl, trivial⟩)⟩
    · have h := of_false hc9 h
      refine aw_exit ?_
      obtain rfl := Option.some.inj h
      exact ⟨_, rfl, (Goes.into [(2, 2)] ⟨rfl, rfl, .refl, .refl, .refl, .refl, trivial⟩)⟩
  · show AW _ _ _ _ _
    refine aw_seq ?_
    refine aw_region (.cons (.plain rfl (k_fieldP 42 1 rfl rfl (by decide) Try.underlying51 rfl i42 (by decide) .tmp)) ⟨rfl, trivial⟩ rfl <| .cons (.plain rfl (c_loadCell rfl rfl (by decide) Try.isAgg42 .tmp)) ⟨rfl, rfl, trivial⟩ rfl <| .cons (.plain rfl (k_len (i := Try.t3) (l := p0_1) (f := e3) (fun _ => rfl) (by decide) rfl rfl (by decide) Try.underlying42 (src_tree (f := e3) (fun _ => rfl) (by decide) .tmp))) ⟨rfl, trivial⟩ rfl <| .cons (.plain rfl (c_move rfl rfl (by decide) .tmp)) ⟨rfl, trivial⟩ rfl <| .cons (.plain rfl (c_max rfl rfl (by decide) .tmp (.const rfl))) ⟨rfl, trivial⟩ rfl <| .cons (.plain rfl (c_leq rfl rfl (by decide) .tmp .tmp)) ⟨rfl, rfl, trivial⟩ rfl <| .cons (.plain rfl (c_assign rfl rfl (by decide) .tmp)) ⟨rfl, trivial⟩ rfl <| .nil) ?_
    show AW _ _ _ _ _
    refine aw_goes (σ' := [(.tmp 4, .m (.one (.t (.v (.bool (decide ((p0_1.length : Int) ≤ (if 2 > p1 then 2 else p1))))))))]) (Goes.into [] ⟨rfl, rfl, .refl, trivial⟩) ?_
    refine aw_ret ?_
    obtain rfl := Option.some.inj h
    exact ⟨.inr rfl, _, [], (.tmp rfl .nil), rfl, rfl, rfl, ⟨rfl, rfl, trivial⟩⟩

def runs_May_L1 (p0_1 : Int) (p0_2 : List (Int × (List (Int)))) (p0_4 : Int) (v20 : Int) : Option (Int ⊕ (Unit ⊕ Bool)) := bif decide (v20 < (p0_2.length : Int)) then (at_ p0_2 v20).bind fun v22 => ((ring_May v22.1 v22.2 p0_1).bind fun v26 => bif !v26 then some true else (bits_Set_Has p0_4 v20).bind fun v27 => bif !v27 then (ring_All v22.1 v22.2).bind fun v28 => some (decide (0 < (v28.length : Int))) else some false : Option Bool).bind fun v29 => bif v29 then some (.inr (.inr false)) else some (.inl (wi64 (v20 + 1))) else some (.inr (.inl (())))
def runs_May_L2 (v30 : List (Int)) (v45 : Int) : Option (Int ⊕ (Unit ⊕ Bool)) := bif decide (v45 < (v30.length : Int)) then (at_ v30 v45).bind fun v47 => (bif decide (v47 ≤ 0) then some true else (take_ v30 v45).bind fun v50 => (slices_Contains_int v50 v47).bind fun v51 => some v51 : Option Bool).bind fun v52 => bif v52 then some (.inr (.inr false)) else some (.inl (wi64 (v45 + 1))) else some (.inr (.inl (())))
def runs_May (p0_0 : List (Int × Int)) (p0_1 : Int) (p0_2 : List (Int × (List (Int)))) (p0_3 : List ((List (Int)))) (p0_4 : Int) : Option Bool := (runs_whole p0_0 p0_1 p0_2 p0_3 p0_4).bind fun v1 => bif !v1 then some false else (loopO (runs_May_L1 p0_1 p0_2 p0_4) fuel 0).bind fun s => s.elim (fun v21 => (runs_All p0_0 p0_1 p0_2 p0_3 p0_4).bind fun v30 => (loopO (runs_May_L2 v30) fuel 0).bind fun s => s.elim (fun v46 => some true) (fun j : Bool => some j)) (fun j : Bool => some j)
theorem runs_May_calls (p0_0 : List (Int × Int)) (p0_1 : Int) (p0_2 : List (Int × (List (Int)))) (p0_3 : List ((List (Int)))) (p0_4 : Int) (r : Bool) (h : runs_May p0_0 p0_1 p0_2 p0_3 p0_4 = some r) : ACalls Try.prog 21 [.agg [.t (.sl (p0_0.map e57)), .t (.v (.int .i64 p0_1)), .t (.sl (p0_2.map e51)), .t (.sl (p0_3.map e42)), .t (.v (.int .u64 p0_4))]] [] (.one (.t (.v (.bool r)))) [] := by
  unfold runs_May at h
  refine acalls_of_AW Try.func21 rfl Try.call21 (by decide) (show 1 ≤ 57 by decide) rfl rfl ?_
  refine aw_seq ?_
  refine aw_region (.cons (.plain rfl (k_boxN rfl rfl (by decide) .tmp rfl)) ⟨rfl, trivial⟩ rfl <| .cons (.plain rfl (c_assign rfl rfl (by decide) (.const rfl))) trivial rfl <| .nil) ?_
  show AW _ _ _ _ _
  refine aw_seq ?_
  refine aw_seq ?_
  obtain ⟨v1, hv1, h⟩ := bind_some h
  refine aw_region (.cons (.plain rfl (c_loadBox (cs := [.t (.sl (p0_0.map e57)), .t (.v (.int .i64 p0_1)), .t (.sl (p0_2.map e51)), .t (.sl (p0_3.map e42)), .t (.v (.int .u64 p0_4))]) rfl rfl (by decide) Try.isAgg33 i33 rfl .tmp)) ⟨rfl, rfl, rfl, rfl, rfl, rfl, trivial⟩ rfl <| .cons (.plain rfl (c_call (ins := [.agg [.t (.sl (p0_0.map e57)), .t (.v (.int .i64 p0_1)), .t (.sl (p0_2.map e51)), .t (.sl (p0_3.map e42)), .t (.v (.int .u64 p0_4))]]) (caps := []) rfl rfl rfl (by decide) .clo (runs_whole_calls _ _ _ _ _ _ hv1) (.cons .tmp .nil) rfl rfl)) ⟨rfl, trivial⟩ rfl <| .cons (.plain rfl (c_not rfl rfl (by decide) .tmp)) ⟨rfl, trivial⟩ rfl <| .nil) ?_
  show AW _ _ _ _ _
  refine aw_cond .tmp ⟨rfl, trivial⟩ (fun hc1 => ?_) (fun hc1 => ?_)
  · have h := of_true hc1 h
    refine aw_seq ?_
    refine aw_region (.cons (.plain rfl (c_assign rfl rfl (by decide) (.const rfl))) trivial rfl <| .nil) ?_
    show AW _ _ _ _ _
    refine aw_goes (σ' := [(.tmp 2, .m (.one (.t (.v (.bool false)))))]) (Goes.into [] ⟨rfl, rfl, .refl, trivial⟩) ?_
    refine aw_ret ?_
    obtain rfl := Option.some.inj h
    exact ⟨.inr rfl, _, [], (.tmp rfl .nil), rfl, rfl, rfl, ⟨rfl, rfl, trivial⟩⟩
  · have h := of_false hc1 h
    refine aw_skip ?_
    show AW _ _ _ _ _
    refine aw_seq ?_
    refine aw_seq ?_
    refine aw_region (.cons (.plain rfl (k_fieldP 30 2 rfl rfl (by decide) Try.underlying33 rfl i30 (by decide) .tmp)) ⟨rfl, trivial⟩ rfl <| .cons (.plain rfl (c_loadCell rfl rfl (by decide) Try.isAgg30 .tmp)) ⟨rfl, rfl, trivial⟩ rfl <| .cons (.plain rfl (k_len (i := Try.t51) (l := p0_2) (f := e51) (fun _ => rfl) (by decide) rfl rfl (by decide) Try.underlying30 (src_tree (f := e51) (fun _ => rfl) (by decide) .tmp))) ⟨rfl, trivial⟩ rfl <| .cons (.plain rfl (c_move rfl rfl (by decide) (.const rfl))) trivial rfl <| .nil) ?_
    show AW _ _ _ _ _
    refine aw_loopJ (fun v20 : Int => [(.tmp 1, .m (.one (.ptr 1 0))), (.tmp 12, .m (.one (.t (.sl (p0_2.map e51))))), (.tmp 13, .m (.one (.t (.v (.int .i64 ((p0_2.length : Int))))))), (.tmp 14, .m (.one (.t (.v (.int .i64 v20))))), (.cell 1 0, .c (.t (.sl (p0_0.map e57)))), (.cell 1 1, .c (.t (.v (.int .i64 p0_1)))), (.cell 1 2, .c (.t (.sl (p0_2.map e51)))), (.cell 1 3, .c (.t (.sl (p0_3.map e42)))), (.cell 1 4, .c (.t (.v (.int .u64 p0_4))))]) (fun v21 : Unit => [(.tmp 1, .m (.one (.ptr 1 0))), (.cell 1 0, .c (.t (.sl (p0_0.map e57)))), (.cell 1 1, .c (.t (.v (.int .i64 p0_1)))), (.cell 1 2, .c (.t (.sl (p0_2.map e51)))), (.cell 1 3, .c (.t (.sl (p0_3.map e42)))), (.cell 1 4, .c (.t (.v (.int .u64 p0_4))))]) h (Goes.into [(1, 1)] ⟨rfl, rfl, .refl, .refl, .refl, .refl, .refl, .refl, .refl, .refl, .refl, trivial⟩) (fun v20 _ h => ?_) (fun v21 h => ?_)
    · unfold runs_May_L1 at h
      refine aw_seq ?_
      refine aw_region (.cons (.plain rfl (c_lss rfl rfl (by decide) .tmp .tmp)) ⟨rfl, rfl, trivial⟩ rfl <| .nil) ?_
      show AW _ _ _ _ _
      refine aw_seq ?_
      refine aw_cond .tmp ⟨rfl, trivial⟩ (fun hc14 => ?_) (fun hc14 => ?_)
      · have h := of_true hc14 h
        refine aw_skip ?_
        show AW _ _ _ _ _
        refine aw_seq ?_
        refine aw_block ?_
        refine aw_seq ?_
        obtain ⟨v22, hv22, h⟩ := bind_some h
        refine aw_region (.cons (.plain rfl (c_move rfl rfl (by decide) .tmp)) ⟨rfl, trivial⟩ rfl <| .cons (.plain rfl (k_index (f := e51) (i := Try.t51) hv22 rfl rfl rfl (by decide) Try.underlying30 i51 .tmp .tmp)) ⟨rfl, rfl, trivial⟩ rfl <| .cons (.plain rfl (c_loadTrees (cs := [.v (.int .i64 v22.1), .sl (v22.2.map e3)]) rfl rfl (by decide) Try.isAgg51 i51 rfl (show 0 + 2 ≤ 2 by decide) .tmp)) ⟨rfl, trivial⟩ rfl <| .cons (.plain rfl (c_alloc rfl rfl (by decide) i51 rfl rfl rfl)) trivial rfl <| .cons (.plain rfl (c_assign rfl rfl (by decide) .tmp)) ⟨rfl, trivial⟩ rfl <| .cons (.plain rfl (c_storeBox (cs0 := [.t (.v (.int .i64 0)), .t (.v (.slice none 0 0))]) (cs := [.t (.v (.int .i64 v22.1)), .t (.sl (v22.2.map e3))]) rfl rfl i51 rfl rfl .tmp .tmp)) ⟨rfl, rfl, rfl, rfl, trivial⟩ rfl <| .nil) ?_
        show AW _ _ _ _ _
        refine aw_seq ?_
        refine aw_cut0 (fun v29 : Bool => [(.tmp 1, .m (.one (.ptr 1 0))), (.tmp 12, .m (.one (.t (.sl (p0_2.map e51))))), (.tmp 13, .m (.one (.t (.v (.int .i64 ((p0_2.length : Int))))))), (.tmp 14, .m (.one (.t (.v (.int .i64 v20))))), (.tmp 36, .m (.one (.t (.v (.bool v29))))), (.cell 1 0, .c (.t (.sl (p0_0.map e57)))), (.cell 1 1, .c (.t (.v (.int .i64 p0_1)))), (.cell 1 2, .c (.t (.sl (p0_2.map e51)))), (.cell 1 3, .c (.t (.sl (p0_3.map e42)))), (.cell 1 4, .c (.t (.v (.int .u64 p0_4))))]) h (fun _ h => ?_) (fun v29 h => ?_)
        · obtain ⟨v26, hv26, h⟩ := bind_some h
          cases hc17 : !v26 with
          | true =>
            have h := of_true hc17 h
            refine aw_region (.cons (.plain rfl (c_loadBox (cs := [.t (.v (.int .i64 v22.1)), .t (.sl (v22.2.map e3))]) rfl rfl (by decide) Try.isAgg51 i51 rfl .tmp)) ⟨rfl, rfl, rfl, trivial⟩ rfl <| .cons (.plain rfl (k_fieldP 3 1 rfl rfl (by decide) Try.underlying33 rfl i3 (by decide) .tmp)) ⟨rfl, trivial⟩ rfl <| .cons (.plain rfl (c_loadCell rfl rfl (by decide) Try.isAgg3 .tmp)) ⟨rfl, rfl, trivial⟩ rfl <| .cons (.plain rfl (c_call (ins := [.agg [.t (.v (.int .i64 v22.1)), .t (.sl (v22.2.map e3))], .one (.t (.v (.int .i64 p0_1)))]) (caps := []) rfl rfl rfl (by decide) .clo (ring_May_calls _ _ _ _ hv26) (.cons .tmp (.cons .tmp .nil)) rfl rfl)) ⟨rfl, rfl, trivial⟩ rfl <| .cons (.plain rfl (c_not rfl rfl (by decide) .tmp)) ⟨rfl, trivial⟩ rfl <| .cons (.plain rfl (c_move rfl rfl (by decide) .tmp)) ⟨rfl, trivial⟩ rfl <| .cons (.off (b' := true) rfl rfl rfl rfl (by decide)) ⟨(congrArg mB hc17), trivial⟩ rfl <| .cons (.off (b' := true) rfl rfl rfl rfl (by decide)) ⟨(congrArg mB hc17), trivial⟩ rfl <| .cons (.off (b' := true) rfl rfl rfl rfl (by decide)) ⟨(congrArg mB hc17), trivial⟩ rfl <| .cons (.off (b' := true) rfl rfl rfl rfl (by decide)) ⟨(congrArg mB hc17), trivial⟩ rfl <| .cons (.off (b' := true) rfl rfl rfl rfl (by decide)) ⟨(congrArg mB hc17), trivial⟩ rfl <| .cons (.off (b' := true) rfl rfl rfl rfl (by decide)) ⟨(congrArg mB hc17), trivial⟩ rfl <| .cons (.offU rfl rfl rfl (by decide)) ⟨rfl, trivial⟩ rfl <| .cons (.offU rfl rfl rfl (by decide)) ⟨rfl, trivial⟩ rfl <| .cons (.offU rfl rfl rfl (by decide)) ⟨rfl, trivial⟩ rfl <| .cons (.offU rfl rfl rfl (by decide)) ⟨rfl, trivial⟩ rfl <| .cons (.off (b' := true) rfl rfl rfl rfl (by decide)) ⟨(congrArg mB hc17), trivial⟩ rfl <| .cons (.plain rfl (c_pick (b := true) rfl rfl (by decide) .tmp rfl (.const rfl))) ⟨(congrArg mB hc17), trivial⟩ rfl <| .nil) ?_
            obtain rfl := Option.some.inj h
            show Goes _ _
            exact (Goes.into [(1, 1)] ⟨rfl, rfl, .refl, .refl, .refl, .refl, .refl, .refl, .refl, .refl, .refl, .refl, trivial⟩)
          | false =>
            have h := of_false hc17 h
            obtain ⟨v27, hv27, h⟩ := bind_some h
            cases hc18 : !v27 with
            | true =>
              have h := of_true hc18 h
              obtain ⟨v28, hv28, h⟩ := bind_some h
              refine aw_region (.cons (.plain rfl (c_loadBox (cs := [.t (.v (.int .i64 v22.1)), .t (.sl (v22.2.map e3))]) rfl rfl (by decide) Try.isAgg51 i51 rfl .tmp)) ⟨rfl, rfl, rfl, trivial⟩ rfl <| .cons (.plain rfl (k_fieldP 3 1 rfl rfl (by decide) Try.underlying33 rfl i3 (by decide) .tmp)) ⟨rfl, trivial⟩ rfl <| .cons (.plain rfl (c_loadCell rfl rfl (by decide) Try.isAgg3 .tmp)) ⟨rfl, rfl, trivial⟩ rfl <| .cons (.plain rfl (c_call (ins := [.agg [.t (.v (.int .i64 v22.1)), .t (.sl (v22.2.map e3))], .one (.t (.v (.int .i64 p0_1)))]) (caps := []) rfl rfl rfl (by decide) .clo (ring_May_calls _ _ _ _ hv26) (.cons .tmp (.cons .tmp .nil)) rfl rfl)) ⟨rfl, rfl, trivial⟩ rfl <| .cons (.plain rfl (c_not rfl rfl (by decide) .tmp)) ⟨rfl, trivial⟩ rfl <| .cons (.plain rfl (c_move rfl rfl (by decide) .tmp)) ⟨rfl, trivial⟩ rfl <| .cons (.on (t := 24) rfl rfl (k_fieldP 31 4 rfl rfl (by decide) Try.underlying33 rfl i31 (by decide) .tmp)) ⟨(congrArg mB hc17), rfl, trivial⟩ rfl <| .cons (.on (t := 24) rfl rfl (c_loadCell rfl rfl (by decide) Try.isAgg31 .tmp)) ⟨(congrArg mB hc17), rfl, rfl, trivial⟩ rfl <| .cons (.on (t := 24) rfl rfl (c_move rfl rfl (by decide) .tmp)) ⟨(congrArg mB hc17), rfl, trivial⟩ rfl <| .cons (.on (t := 24) rfl rfl (c_call (ins := [.one (.t (.v (.int .u64 p0_4))), .one (.t (.v (.int .i64 v20)))]) (caps := []) rfl rfl rfl (by decide) .clo (bits_Set_Has_calls _ _ _ hv27) (.cons .tmp (.cons .tmp .nil)) rfl rfl)) ⟨(congrArg mB hc17), rfl, rfl, trivial⟩ rfl <| .cons (.on (t := 24) rfl rfl (c_not rfl rfl (by decide) .tmp)) ⟨(congrArg mB hc17), rfl, trivial⟩ rfl <| .cons (.on (t := 24) rfl rfl (c_move rfl rfl (by decide) .tmp)) ⟨(congrArg mB hc17), rfl, trivial⟩ rfl <| .cons (.on (t := 30) rfl rfl (c_loadBox (cs := [.t (.v (.int .i64 v22.1)), .t (.sl (v22.2.map e3))]) rfl rfl (by decide) Try.isAgg51 i51 rfl .tmp)) ⟨(congrArg mB hc18), rfl, rfl, rfl, trivial⟩ rfl <| .cons (.on (t := 30) rfl rfl (c_call (ins := [.agg [.t (.v (.int .i64 v22.1)), .t (.sl (v22.2.map e3))]]) (caps := []) rfl rfl rfl (by decide) .clo (ring_All_calls _ _ _ hv28) (.cons .tmp .nil) rfl rfl)) ⟨(congrArg mB hc18), rfl, trivial⟩ rfl <| .cons (.on (t := 30) rfl rfl (k_len (i := Try.t3) (l := v28) (f := e3) (fun _ => rfl) (by decide) rfl rfl (by decide) Try.underlying42 (src_tree (f := e3) (fun _ => rfl) (by decide) .tmp))) ⟨(congrArg mB hc18), rfl, trivial⟩ rfl <| .cons (.on (t := 30) rfl rfl (c_gtr rfl rfl (by decide) .tmp (.const rfl))) ⟨(congrArg mB hc18), rfl, trivial⟩ rfl <| .cons (.on (t := 24) rfl rfl (c_pick (b := true) rfl rfl (by decide) .tmp rfl .tmp)) ⟨(congrArg mB hc17), (congrArg mB hc18), rfl, trivial⟩ rfl <| .cons (.plain rfl (c_pick (b := false) rfl rfl (by decide) .tmp rfl .tmp)) ⟨(congrArg mB hc17), rfl, trivial⟩ rfl <| .nil) ?_
              obtain rfl := Option.some.inj h
              show Goes _ _
              exact (Goes.into [(1, 1)] ⟨rfl, rfl, .refl, .refl, .refl, .refl, .refl, .refl, .refl, .refl, .refl, .refl, trivial⟩)
            | false =>
              have h := of_false hc18 h
              refine aw_region (.cons (.plain rfl (c_loadBox (cs := [.t (.v (.int .i64 v22.1)), .t (.sl (v22.2.map e3))]) rfl rfl (by decide) Try.isAgg51 i51 rfl .tmp)) ⟨rfl, rfl, rfl, trivial⟩ rfl <| .cons (.plain rfl (k_fieldP 3 1 rfl rfl (by decide) Try.underlying33 rfl i3 (by decide) .tmp)) ⟨rfl, trivial⟩ rfl <| .cons (.plain rfl (c_loadCell rfl rfl (by decide) Try.isAgg3 .tmp)) ⟨rfl, rfl, trivial⟩ rfl <| .cons (.plain rfl (c_call (ins := [.agg [.t (.v (.int .i64 v22.1)), .t (.sl (v22.2.map e3))], .one (.t (.v (.int .i64 p0_1)))]) (caps := []) rfl rfl rfl (by decide) .clo (ring_May_calls _ _ _ _ hv26) (.cons .tmp (.cons .tmp .nil)) rfl rfl)) ⟨rfl, rfl, trivial⟩ rfl <| .cons (.plain rfl (c_not rfl rfl (by decide) .tmp)) ⟨rfl, trivial⟩ rfl <| .cons (.plain rfl (c_move rfl rfl (by decide) .tmp)) ⟨rfl, trivial⟩ rfl <| .cons (.on (t := 24) rfl rfl (k_fieldP 31 4 rfl rfl (by decide) Try.underlying33 rfl i31 (by decide) .tmp)) ⟨(congrArg mB hc17), rfl, trivial⟩ rfl <| .cons (.on (t := 24) rfl rfl (c_loadCell rfl rfl (by decide) Try.isAgg31 .tmp)) ⟨(congrArg mB hc17), rfl, rfl, trivial⟩ rfl <| .cons (.on (t := 24) rfl rfl (c_move rfl rfl (by decide) .tmp)) ⟨(congrArg mB hc17), rfl, trivial⟩ rfl <| .cons (.on (t := 24) rfl rfl (c_call (ins := [.one (.t (.v (.int .u64 p0_4))), .one (.t (.v (.int .i64 v20)))]) (caps := []) rfl rfl rfl (by decide) .clo (bits_Set_Has_calls _ _ _ hv27) (.cons .tmp (.cons .tmp .nil)) rfl rfl)) ⟨(congrArg mB hc17), rfl, rfl, trivial⟩ rfl <| .cons (.on (t := 24) rfl rfl (c_not rfl rfl (by decide) .tmp)) ⟨(congrArg mB hc17), rfl, trivial⟩ rfl <| .cons (.on (t := 24) rfl rfl (c_move rfl rfl (by decide) .tmp)) ⟨(congrArg mB hc17), rfl, trivial⟩ rfl <| .cons (.off (b' := false) rfl rfl rfl rfl (by decide)) ⟨(congrArg mB hc18), trivial⟩ rfl <| .cons (.off (b' := false) rfl rfl rfl rfl (by decide)) ⟨(congrArg mB hc18), trivial⟩ rfl <| .cons (.off (b' := false) rfl rfl rfl rfl (by decide)) ⟨(congrArg mB hc18), trivial⟩ rfl <| .cons (.off (b' := false) rfl rfl rfl rfl (by decide)) ⟨(congrArg mB hc18), trivial⟩ rfl <| .cons (.on (t := 24) rfl rfl (c_pick (b := false) rfl rfl (by decide) .tmp rfl (.const rfl))) ⟨(congrArg mB hc17), (congrArg mB hc18), trivial⟩ rfl <| .cons (.plain rfl (c_pick (b := false) rfl rfl (by decide) .tmp rfl .tmp)) ⟨(congrArg mB hc17), rfl, trivial⟩ rfl <| .nil) ?_
              obtain rfl := Option.some.inj h
              show Goes _ _
              exact (Goes.into [(1, 1)] ⟨rfl, rfl, .refl, .refl, .refl, .refl, .refl, .refl, .refl, .refl, .refl, .refl, trivial⟩)
        · show AW _ _ _ _ _
          refine aw_cond .tmp ⟨rfl, trivial⟩ (fun hc19 => ?_) (fun hc19 => ?_)
          · have h := of_true hc19 h
            refine aw_seq ?_
            refine aw_region (.cons (.plain rfl (c_assign rfl rfl (by decide) (.const rfl))) trivial rfl <| .nil) ?_
            show AW _ _ _ _ _
            refine aw_goes (σ' := [(.tmp 2, .m (.one (.t (.v (.bool false)))))]) (Goes.into [] ⟨rfl, rfl, .refl, trivial⟩) ?_
            refine aw_ret ?_
            obtain rfl := Option.some.inj h
            refine ⟨_, rfl, fun h => ?_⟩
            obtain rfl := Option.some.inj h
            exact ⟨.inr rfl, _, [], (.tmp rfl .nil), rfl, rfl, rfl, ⟨rfl, rfl, trivial⟩⟩
          · have h := of_false hc19 h
            refine aw_skip ?_
            show AW _ _ _ _ _
            refine aw_region (.cons (.plain rfl (c_add rfl rfl (by decide) .tmp (.const rfl))) ⟨rfl, trivial⟩ rfl <| .cons (.plain rfl (c_move rfl rfl (by decide) .tmp)) ⟨rfl, trivial⟩ rfl <| .nil) ?_
            obtain rfl := Option.some.inj h
            exact ⟨_, rfl, (Goes.into [(1, 1)] ⟨rfl, rfl, .refl, .refl, .refl, .refl, .refl, .refl, .refl, .refl, .refl, trivial⟩)⟩
      · have h := of_false hc14 h
        refine aw_exit ?_
        obtain rfl := Option.some.inj h
        exact ⟨_, rfl, (Goes.into [(1, 1)] ⟨rfl, rfl, .refl, .refl, .refl, .refl, .refl, .refl, trivial⟩)⟩
    · show AW _ _ _ _ _
      refine aw_seq ?_
      obtain ⟨v30, hv30, h⟩ := bind_some h
      refine aw_region (.cons (.plain rfl (c_loadBox (cs := [.t (.sl (p0_0.map e57)), .t (.v (.int .i64 p0_1)), .t (.sl (p0_2.map e51)), .t (.sl (p0_3.map e42)), .t (.v (.int .u64 p0_4))]) rfl rfl (by decide) Try.isAgg33 i33 rfl .tmp)) ⟨rfl, rfl, rfl, rfl, rfl, rfl, trivial⟩ rfl <| .cons (.plain rfl (c_call (ins := [.agg [.t (.sl (p0_0.map e57)), .t (.v (.int .i64 p0_1)), .t (.sl (p0_2.map e51)), .t (.sl (p0_3.map e42)), .t (.v (.int .u64 p0_4))]]) (caps := []) rfl rfl rfl (by decide) .clo (runs_All_calls _ _ _ _ _ _ hv30) (.cons .tmp .nil) rfl rfl)) ⟨rfl, trivial⟩ rfl <| .cons (.plain rfl (c_assign rfl rfl (by decide) .tmp)) ⟨rfl, trivial⟩ rfl <| .nil) ?_
      show AW _ _ _ _ _
      refine aw_seq ?_
      refine aw_seq ?_
      refine aw_region (.cons (.plain rfl (c_move rfl rfl (by decide) .tmp)) ⟨rfl, trivial⟩ rfl <| .cons (.plain rfl (k_len (i := Try.t3) (l := v30) (f := e3) (fun _ => rfl) (by decide) rfl rfl (by decide) Try.underlying42 (src_tree (f := e3) (fun _ => rfl) (by decide) .tmp))) ⟨rfl, trivial⟩ rfl <| .cons (.plain rfl (c_move rfl rfl (by decide) (.const rfl))) trivial rfl <| .nil) ?_
      show AW _ _ _ _ _
      refine aw_loopJ (fun v45 : Int => [(.tmp 5, .m (.one (.t (.sl (v30.map e3))))), (.tmp 40, .m (.one (.t (.sl (v30.map e3))))), (.tmp 41, .m (.one (.t (.v (.int .i64 ((v30.length : Int))))))), (.tmp 42, .m (.one (.t (.v (.int .i64 v45)))))]) (fun v46 : Unit => []) h (Goes.into [] ⟨rfl, rfl, .refl, .refl, .refl, .refl, trivial⟩) (fun v45 _ h => ?_) (fun v46 h => ?_)
      · unfold runs_May_L2 at h
        refine aw_seq ?_
        refine aw_region (.cons (.plain rfl (c_lss rfl rfl (by decide) .tmp .tmp)) ⟨rfl, rfl, trivial⟩ rfl <| .nil) ?_
        show AW _ _ _ _ _
        refine aw_seq ?_
        refine aw_cond .tmp ⟨rfl, trivial⟩ (fun hc28 => ?_) (fun hc28 => ?_)
        · have h := of_true hc28 h
          refine aw_skip ?_
          show AW _ _ _ _ _
          refine aw_seq ?_
          refine aw_block ?_
          refine aw_seq ?_
          obtain ⟨v47, hv47, h⟩ := bind_some h
          refine aw_region (.cons (.plain rfl (c_move rfl rfl (by decide) .tmp)) ⟨rfl, trivial⟩ rfl <| .cons (.plain rfl (k_index (f := e3) (i := Try.t3) hv47 rfl rfl rfl (by decide) Try.underlying42 i3 .tmp .tmp)) ⟨rfl, rfl, trivial⟩ rfl <| .cons (.plain rfl (c_loadTree rfl rfl (by decide) Try.isAgg3 .tmp rfl)) ⟨rfl, trivial⟩ rfl <| .cons (.plain rfl (c_assign rfl rfl (by decide) .tmp)) ⟨rfl, trivial⟩ rfl <| .cons (.plain rfl (c_assign rfl rfl (by decide) .tmp)) ⟨rfl, trivial⟩ rfl <| .nil) ?_
          show AW _ _ _ _ _
          refine aw_seq ?_
          refine aw_cut0 (fun v52 : Bool => [(.tmp 5, .m (.one (.t (.sl (v30.map e3))))), (.tmp 40, .m (.one (.t (.sl (v30.map e3))))), (.tmp 41, .m (.one (.t (.v (.int .i64 ((v30.length : Int))))))), (.tmp 42, .m (.one (.t (.v (.int .i64 v45))))), (.tmp 55, .m (.one (.t (.v (.bool v52)))))]) h (fun _ h => ?_) (fun v52 h => ?_)
          · cases hc30 : decide (v47 ≤ 0) with
            | true =>
              have h := of_true hc30 h
              refine aw_region (.cons (.plain rfl (c_move rfl rfl (by decide) .tmp)) ⟨rfl, trivial⟩ rfl <| .cons (.plain rfl (c_leq rfl rfl (by decide) .tmp (.const rfl))) ⟨rfl, trivial⟩ rfl <| .cons (.plain rfl (c_move rfl rfl (by decide) .tmp)) ⟨rfl, trivial⟩ rfl <| .cons (.off (b' := true) rfl rfl rfl rfl (by decide)) ⟨(congrArg mB hc30), trivial⟩ rfl <| .cons (.off (b' := true) rfl rfl rfl rfl (by decide)) ⟨(congrArg mB hc30), trivial⟩ rfl <| .cons (.off (b' := true) rfl rfl rfl rfl (by decide)) ⟨(congrArg mB hc30), trivial⟩ rfl <| .cons (.off (b' := true) rfl rfl rfl rfl (by decide)) ⟨(congrArg mB hc30), trivial⟩ rfl <| .cons (.off (b' := true) rfl rfl rfl rfl (by decide)) ⟨(congrArg mB hc30), trivial⟩ rfl <| .cons (.plain rfl (c_pick (b := true) rfl rfl (by decide) .tmp rfl (.const rfl))) ⟨(congrArg mB hc30), trivial⟩ rfl <| .nil) ?_
              obtain rfl := Option.some.inj h
              show Goes _ _
              exact (Goes.into [] ⟨rfl, rfl, .refl, .refl, .refl, .refl, .refl, trivial⟩)
            | false =>
              have h := of_false hc30 h
              obtain ⟨v50, hv50, h⟩ := bind_some h
              obtain ⟨v51, hv51, h⟩ := bind_some h
              refine aw_region (.cons (.plain rfl (c_move rfl rfl (by decide) .tmp)) ⟨rfl, trivial⟩ rfl <| .cons (.plain rfl (c_leq rfl rfl (by decide) .tmp (.const rfl))) ⟨rfl, trivial⟩ rfl <| .cons (.plain rfl (c_move rfl rfl (by decide) .tmp)) ⟨rfl, trivial⟩ rfl <| .cons (.on (t := 49) rfl rfl (c_move rfl rfl (by decide) .tmp)) ⟨(congrArg mB hc30), rfl, trivial⟩ rfl <| .cons (.on (t := 49) rfl rfl (c_move rfl rfl (by decide) .tmp)) ⟨(congrArg mB hc30), rfl, trivial⟩ rfl <| .cons (.on (t := 49) rfl rfl (k_sliceH (f := e3) (i := Try.t3) hv50 (fun _ => rfl) rfl rfl (by decide) Try.underlying42 i3 (.tree .tmp) .tmp)) ⟨(congrArg mB hc30), rfl, rfl, trivial⟩ rfl <| .cons (.on (t := 49) rfl rfl (c_move rfl rfl (by decide) .tmp)) ⟨(congrArg mB hc30), rfl, trivial⟩ rfl <| .cons (.on (t := 49) rfl rfl (c_call (ins := [.one (.t (.sl (v50.map e3))), .one (.t (.v (.int .i64 v47)))]) (caps := []) rfl rfl rfl (by decide) .clo (slices_Contains_int_calls _ _ _ hv51) (.cons .tmp (.cons .tmp .nil)) rfl rfl)) ⟨(congrArg mB hc30), rfl, rfl, trivial⟩ rfl <| .cons (.plain rfl (c_pick (b := false) rfl rfl (by decide) .tmp rfl .tmp)) ⟨(congrArg mB hc30), rfl, trivial⟩ rfl <| .nil) ?_
              obtain rfl := Option.some.inj h
              show Goes _ _
              exact (Goes.into [] ⟨rfl, rfl, .refl, .refl, .refl, .refl, .refl, trivial⟩)
          · show AW _ _ _ _ _
            refine aw_cond .tmp ⟨rfl, trivial⟩ (fun hc31 => ?_) (fun hc31 => ?_)
            · have h := of_true hc31 h
              refine aw_seq ?_
              refine aw_region (.cons (.plain rfl (c_assign rfl rfl (by decide) (.const rfl))) trivial rfl <| .nil) ?_
              show AW _ _ _ _ _
              refine aw_goes (σ' := [(.tmp 2, .m (.one (.t (.v (.bool false)))))]) (Goes.into [] ⟨rfl, rfl, .refl, trivial⟩) ?_
              refine aw_ret ?_
              obtain rfl := Option.some.inj h
              refine ⟨_, rfl, fun h => ?_⟩
              obtain rfl := Option.some.inj h
              exact ⟨.inr rfl, _, [], (.tmp rfl .nil), rfl, rfl, rfl, ⟨rfl, rfl, trivial⟩⟩
            · have h := of_false hc31 h
              refine aw_skip ?_
              show AW _ _ _ _ _
              refine aw_region (.cons (.plain rfl (c_add rfl rfl (by decide) .tmp (.const rfl))) ⟨rfl, trivial⟩ rfl <| .cons (.plain rfl (c_move rfl rfl (by decide) .tmp)) ⟨rfl, trivial⟩ rfl <| .nil) ?_
              obtain rfl := Option.some.inj h
              exact ⟨_, rfl, (Goes.into [] ⟨rfl, rfl, .refl, .refl, .refl, .refl, trivial⟩)⟩
        · have h := of_false hc28 h
          refine aw_exit ?_
          obtain rfl := Option.some.inj h
          exact ⟨_, rfl, (Goes.into [] ⟨rfl, rfl, trivial⟩)⟩
      · show AW _ _ _ _ _
        refine aw_seq ?_
        refine aw_region (.cons (.plain rfl (c_assign rfl rfl (by decide) (.const rfl))) trivial rfl <| .nil) ?_
        show AW _ _ _ _ _
        refine aw_goes (σ' := [(.tmp 2, .m (.one (.t (.v (.bool true)))))]) (Goes.into [] ⟨rfl, rfl, .refl, trivial⟩) ?_
        refine aw_ret ?_
        obtain rfl := Option.some.inj h
        exact ⟨.inr rfl, _, [], (.tmp rfl .nil), rfl, rfl, rfl, ⟨rfl, rfl, trivial⟩⟩

def slices_DeleteFunc_int_L1 (p1 : Int → Option Bool) (v18 : ((List (Int)) × Int × Int)) : Option (((List (Int)) × Int × Int) ⊕ ((List (Int)) × Int)) := bif decide (v18.2.2 < (v18.1.length : Int)) then ((at_ v18.1 v18.2.2).bind fun v23 => (p1 v23).bind fun v24 => bif !v24 then (at_ v18.1 v18.2.1).bind fun v25 => some ((set_ v18.1 v18.2.1 v23, wi64 (v18.2.1 + 1))) else some ((v18.1, v18.2.1)) : Option (((List (Int)) × Int))).bind fun v26 => some (.inl ((v26.1, v26.2, wi64 (v18.2.2 + 1)))) else some (.inr ((v18.1, v18.2.1)))
def slices_DeleteFunc_int (p0 : List (Int)) (p1 : Int → Option Bool) : Option (List (Int)) := (slices_IndexFunc_int p0 p1).bind fun v1 => bif decide (v1 = (-1)) then some p0 else (loopO (slices_DeleteFunc_int_L1 p1) fuel ((p0, v1, wi64 (v1 + 1)))).bind fun v19 => (drop_ v19.1 v19.2).bind fun v27 => (take_ (clear_ v19.1 v19.2.toNat v27.length 0) v19.2).bind fun v28 => some v28
theorem slices_DeleteFunc_int_row (p0 : List (Int)) (p1 : Int → Option Bool) {p1g : FuncId} {p1c : List (List T)} (Hp1 : ∀ (x0 : Int) (r : Bool), p1 x0 = some r → ACalls Try.prog p1g ([.one (.t (.v (.int .i64 x0)))] ++ p1c.map fun cs => .one (.tptr cs 0)) [] (.one (.t (.v (.bool r)))) []) (r : List (Int)) (h : slices_DeleteFunc_int p0 p1 = some r) : ACalls Try.prog 37 [.one (.row 1000000), .one (.t (.clo p1g p1c))] [(.row 1000000, .r 3 1 (p0.map e3))] (.one (.row 2000000)) [(.row 2000000, .r 3 1 (r.map e3))] := by
  unfold slices_DeleteFunc_int at h
  refine acalls_of_AW Try.func37 rfl Try.call37 (by decide) (show 2 ≤ 42 by decide) rfl rfl ?_
  refine aw_seq ?_
  refine aw_region (.cons (.plain rfl (c_assign rfl rfl (by decide) (.const rfl))) trivial rfl <| .nil) ?_
  show AW _ _ _ _ _
  refine aw_seq ?_
  obtain ⟨v1, hv1, h⟩ := bind_some h
  refine aw_region (.cons (.plain rfl (c_move rfl rfl (by decide) .tmp)) ⟨rfl, trivial⟩ rfl <| .cons (.plain rfl (c_move rfl rfl (by decide) .tmp)) ⟨rfl, trivial⟩ rfl <| .cons (.plain rfl (c_lend rfl rfl rfl (by decide) (slices_IndexFunc_int_calls _ _ Hp1 _ hv1) (.cons (.row .tmp) (.cons (.of .tmp rfl) .nil)) rfl)) ⟨rfl, rfl, rfl, trivial⟩ rfl <| .cons (.plain rfl (c_assign rfl rfl (by decide) .tmp)) ⟨rfl, trivial⟩ rfl <| .nil) ?_
  show AW _ _ _ _ _
  refine aw_seq ?_
  refine aw_seq ?_
  refine aw_region (.cons (.plain rfl (c_move rfl rfl (by decide) .tmp)) ⟨rfl, trivial⟩ rfl <| .cons (.plain rfl (c_eql rfl rfl (by decide) .tmp (.const rfl))) ⟨rfl, trivial⟩ rfl <| .nil) ?_
  show AW _ _ _ _ _
  refine aw_cond .tmp ⟨rfl, trivial⟩ (fun hc1 => ?_) (fun hc1 => ?_)
  · have h := of_true hc1 h
    refine aw_seq ?_
    refine aw_region (.cons (.plain rfl (c_move rfl rfl (by decide) .tmp)) ⟨rfl, trivial⟩ rfl <| .cons (.plain rfl (c_assign rfl rfl (by decide) .tmp)) ⟨rfl, trivial⟩ rfl <| .nil) ?_
    show AW _ _ _ _ _
    refine aw_goes (σ' := [(.tmp 4, .m (.one (.row 1000000))), (.row 1000000, .r 3 1 (p0.map e3))]) (Goes.into [(1000000, 1000000)] ⟨rfl, rfl, .refl, .refl, trivial⟩) ?_
    refine aw_ret ?_
    obtain rfl := Option.some.inj h
    exact ⟨.inr rfl, _, [(2000000, 1000000)], (.tmp rfl .nil), rfl, rfl, rfl, ⟨rfl, rfl, .refl, trivial⟩⟩
  · have h := of_false hc1 h
    refine aw_skip ?_
    show AW _ _ _ _ _
    refine aw_seq ?_
    refine aw_seq ?_
    refine aw_region (.cons (.plain rfl (c_move rfl rfl (by decide) .tmp)) ⟨rfl, trivial⟩ rfl <| .cons (.plain rfl (c_add rfl rfl (by decide) .tmp (.const rfl))) ⟨rfl, trivial⟩ rfl <| .cons (.plain rfl (c_assign rfl rfl (by decide) .tmp)) ⟨rfl, trivial⟩ rfl <| .nil) ?_
    show AW _ _ _ _ _
    refine aw_loop0 (fun v18 : ((List (Int)) × Int × Int) => [(.tmp 0, .m (.one (.row 1000000))), (.tmp 1, .m (.one (.t (.clo p1g p1c)))), (.tmp 5, .m (.one (.t (.v (.int .i64 v18.2.1))))), (.tmp 6, .m (.one (.t (.v (.int .i64 v18.2.2))))), (.row 1000000, .r 3 1 (v18.1.map e3))]) (fun v19 : ((List (Int)) × Int) => [(.tmp 0, .m (.one (.row 1000000))), (.tmp 5, .m (.one (.t (.v (.int .i64 v19.2))))), (.row 1000000, .r 3 1 (v19.1.map e3))]) h (Goes.into [(1000000, 1000000)] ⟨rfl, rfl, .refl, .refl, .refl, .refl, .refl, trivial⟩) (fun v18 _ h => ?_) (fun v19 h => ?_)
    · unfold slices_DeleteFunc_int_L1 at h
      refine aw_seq ?_
      refine aw_seq ?_
      refine aw_region (.cons (.plain rfl (c_move rfl rfl (by decide) .tmp)) ⟨rfl, trivial⟩ rfl <| .cons (.plain rfl (c_move rfl rfl (by decide) .tmp)) ⟨rfl, trivial⟩ rfl <| .cons (.plain rfl (k_len (i := Try.t3) (l := v18.1) (f := e3) (fun _ => rfl) (by decide) rfl rfl (by decide) Try.underlying42 (src_row (f := e3) .tmp))) ⟨rfl, rfl, trivial⟩ rfl <| .cons (.plain rfl (c_lss rfl rfl (by decide) .tmp .tmp)) ⟨rfl, rfl, trivial⟩ rfl <| .nil) ?_
      show AW _ _ _ _ _
      refine aw_cond .tmp ⟨rfl, trivial⟩ (fun hc8 => ?_) (fun hc8 => ?_)
      · have h := of_true hc8 h
        refine aw_skip ?_
        show AW _ _ _ _ _
        refine aw_seq ?_
        refine aw_cut0 (fun v26 : ((List (Int)) × Int) => [(.tmp 0, .m (.one (.row 1000000))), (.tmp 1, .m (.one (.t (.clo p1g p1c)))), (.tmp 5, .m (.one (.t (.v (.int .i64 v26.2))))), (.tmp 6, .m (.one (.t (.v (.int .i64 v18.2.2))))), (.row 1000000, .r 3 1 (v26.1.map e3))]) h (fun _ h => ?_) (fun v26 h => ?_)
        · refine aw_block ?_
          refine aw_seq ?_
          obtain ⟨v23, hv23, h⟩ := bind_some h
          refine aw_region (.cons (.plain rfl (c_move rfl rfl (by decide) .tmp)) ⟨rfl, trivial⟩ rfl <| .cons (.plain rfl (c_move rfl rfl (by decide) .tmp)) ⟨rfl, trivial⟩ rfl <| .cons (.plain rfl (k_indexRow (f := e3) (i := Try.t3) hv23 rfl rfl rfl (by decide) Try.underlying42 i3 .tmp .tmp)) ⟨rfl, rfl, rfl, trivial⟩ rfl <| .cons (.plain rfl (c_loadRow rfl rfl (by decide) Try.isAgg3 .tmp (at_get (f := e3) hv23) rfl)) ⟨rfl, rfl, trivial⟩ rfl <| .cons (.plain rfl (c_assign rfl rfl (by decide) .tmp)) ⟨rfl, trivial⟩ rfl <| .nil) ?_
          show AW _ _ _ _ _
          refine aw_seq ?_
          obtain ⟨v24, hv24, h⟩ := bind_some h
          refine aw_region (.cons (.plain rfl (c_move rfl rfl (by decide) .tmp)) ⟨rfl, trivial⟩ rfl <| .cons (.plain rfl (c_move rfl rfl (by decide) .tmp)) ⟨rfl, trivial⟩ rfl <| .cons (.plain rfl (c_call (ins := [.one (.t (.v (.int .i64 v23)))]) (caps := p1c) rfl rfl rfl (by decide) .tmp (Hp1 _ _ hv24) (.cons .tmp .nil) rfl rfl)) ⟨rfl, rfl, trivial⟩ rfl <| .cons (.plain rfl (c_not rfl rfl (by decide) .tmp)) ⟨rfl, trivial⟩ rfl <| .nil) ?_
          show AW _ _ _ _ _
          refine aw_cond .tmp ⟨rfl, trivial⟩ (fun hc10 => ?_) (fun hc10 => ?_)
          · have h := of_true hc10 h
            refine aw_seq ?_
            obtain ⟨v25, hv25, h⟩ := bind_some h
            refine aw_region (.cons (.plain rfl (c_move rfl rfl (by decide) .tmp)) ⟨rfl, trivial⟩ rfl <| .cons (.plain rfl (c_move rfl rfl (by decide) .tmp)) ⟨rfl, trivial⟩ rfl <| .cons (.plain rfl (c_move rfl rfl (by decide) .tmp)) ⟨rfl, trivial⟩ rfl <| .cons (.plain rfl (k_indexRow (f := e3) (i := Try.t3) hv25 rfl rfl rfl (by decide) Try.underlying42 i3 .tmp .tmp)) ⟨rfl, rfl, rfl, trivial⟩ rfl <| .cons (.plain rfl (k_setRow1 (f := e3) (new := v23) hv25 (show 0 < 1 by decide) rfl rfl rfl i3 rfl .tmp .tmp)) ⟨rfl, rfl, rfl, trivial⟩ rfl <| .nil) ?_
            show AW _ _ _ _ _
            refine aw_region (.cons (.plain rfl (c_move rfl rfl (by decide) .tmp)) ⟨rfl, trivial⟩ rfl <| .cons (.plain rfl (c_add rfl rfl (by decide) .tmp (.const rfl))) ⟨rfl, trivial⟩ rfl <| .cons (.plain rfl (c_assign rfl rfl (by decide) .tmp)) ⟨rfl, trivial⟩ rfl <| .nil) ?_
            obtain rfl := Option.some.inj h
            show Goes _ _
            exact (Goes.into [(1000000, 1000000)] ⟨rfl, rfl, .refl, .refl, .refl, .refl, .refl, trivial⟩)
          · have h := of_false hc10 h
            refine aw_skip ?_
            obtain rfl := Option.some.inj h
            show Goes _ _
            exact (Goes.into [(1000000, 1000000)] ⟨rfl, rfl, .refl, .refl, .refl, .refl, .refl, trivial⟩)
        · show AW _ _ _ _ _
          refine aw_region (.cons (.plain rfl (c_move rfl rfl (by decide) .tmp)) ⟨rfl, trivial⟩ rfl <| .cons (.plain rfl (c_add rfl rfl (by decide) .tmp (.const rfl))) ⟨rfl, trivial⟩ rfl <| .cons (.plain rfl (c_assign rfl rfl (by decide) .tmp)) ⟨rfl, trivial⟩ rfl <| .nil) ?_
          obtain rfl := Option.some.inj h
          exact ⟨_, rfl, (Goes.into [(1000000, 1000000)] ⟨rfl, rfl, .refl, .refl, .refl, .refl, .refl, trivial⟩)⟩
      · have h := of_false hc8 h
        refine aw_exit ?_
        obtain rfl := Option.some.inj h
        exact ⟨rfl, _, rfl, (Goes.into [(1000000, 1000000)] ⟨rfl, rfl, .refl, .refl, .refl, trivial⟩)⟩
    · show AW _ _ _ _ _
      refine aw_seq ?_
      obtain ⟨v27, hv27, h⟩ := bind_some h
      refine aw_region (.cons (.plain rfl (c_move rfl rfl (by decide) .tmp)) ⟨rfl, trivial⟩ rfl <| .cons (.plain rfl (c_move rfl rfl (by decide) .tmp)) ⟨rfl, trivial⟩ rfl <| .cons (.plain rfl (k_segRow (f := e3) hv27 rfl rfl (by decide) Try.underlying42 i3 rfl .tmp .tmp)) ⟨rfl, rfl, rfl, trivial⟩ rfl <| .cons (.plain rfl (k_clearSeg (f := e3) (zz := 0) hv27 rfl rfl Try.underlying42 i3 rfl rfl rfl rfl rfl .tmp)) ⟨rfl, rfl, trivial⟩ rfl <| .nil) ?_
      show AW _ _ _ _ _
      refine aw_seq ?_
      obtain ⟨v28, hv28, h⟩ := bind_some h
      refine aw_region (.cons (.plain rfl (c_move rfl rfl (by decide) .tmp)) ⟨rfl, trivial⟩ rfl <| .cons (.plain rfl (c_move rfl rfl (by decide) .tmp)) ⟨rfl, trivial⟩ rfl <| .cons (.plain rfl (k_takeRow (f := e3) hv28 (by decide) rfl rfl (by decide) Try.underlying42 i3 .tmp .tmp)) ⟨rfl, rfl, rfl, trivial⟩ rfl <| .cons (.plain rfl (c_assign rfl rfl (by decide) .tmp)) ⟨rfl, trivial⟩ rfl <| .nil) ?_
      show AW _ _ _ _ _
      refine aw_goes (σ' := [(.tmp 4, .m (.one (.row 500001))), (.row 500001, .r 3 1 (v28.map e3))]) (Goes.into [(500001, 41)] ⟨rfl, rfl, .refl, .refl, trivial⟩) ?_
      refine aw_ret ?_
      obtain rfl := Option.some.inj h
      exact ⟨.inr rfl, _, [(2000000, 500001)], (.tmp rfl .nil), rfl, rfl, rfl, ⟨rfl, rfl, .refl, trivial⟩⟩

def dist_proc (p0 : List (Int × Int)) (p1 : Int) : Option Int := (topo_Check p0).bind fun v1 => bif !decide (v1 = 0) then some ((-1)) else (topo_Procs p0).bind fun v2 => (bif decide (0 ≤ p1) then some (decide (p1 < (v2.length : Int))) else some false : Option Bool).bind fun v3 => bif v3 then (at_ v2 p1).bind fun v4 => some v4 else some ((-1))
theorem dist_proc_calls (p0 : List (Int × Int)) (p1 : Int) (r : Int) (h : dist_proc p0 p1 = some r) : ACalls Try.prog 52 [.one (.t (.sl (p0.map e57))), .one (.t (.v (.int .i64 p1)))] [] (.one (.t (.v (.int .i64 r)))) [] := by
  unfold dist_proc at h
  refine acalls_of_AW Try.func52 rfl Try.call52 (by decide) (show 2 ≤ 23 by decide) rfl rfl ?_
  refine aw_seq ?_
  refine aw_region (.cons (.plain rfl (c_assign rfl rfl (by decide) (.const rfl))) trivial rfl <| .nil) ?_
  show AW _ _ _ _ _
  refine aw_seq ?_
  refine aw_seq ?_
  obtain ⟨v1, hv1, h⟩ := bind_some h
  refine aw_region (.cons (.plain rfl (c_move rfl rfl (by decide) .tmp)) ⟨rfl, trivial⟩ rfl <| .cons (.plain rfl (c_call (ins := [.one (.t (.sl (p0.map e57)))]) (caps := []) rfl rfl rfl (by decide) .clo (topo_Check_calls _ _ hv1) (.cons .tmp .nil) rfl rfl)) ⟨rfl, trivial⟩ rfl <| .cons (.plain rfl (c_neq rfl rfl (by decide) .tmp (.const rfl))) ⟨rfl, trivial⟩ rfl <| .nil) ?_
  show AW _ _ _ _ _
  refine aw_cond .tmp ⟨rfl, trivial⟩ (fun hc1 => ?_) (fun hc1 => ?_)
  · have h := of_true hc1 h
    refine aw_seq ?_
    refine aw_region (.cons (.plain rfl (c_assign rfl rfl (by decide) (.const rfl))) trivial rfl <| .nil) ?_
    show AW _ _ _ _ _
    refine aw_goes (σ' := [(.tmp 4, .m (.one (.t (.v (.int .i64 ((-1)))))))]) (Goes.into [] ⟨rfl, rfl, .refl, trivial⟩) ?_
    refine aw_ret ?_
    obtain rfl := Option.some.inj h
    exact ⟨.inr rfl, _, [], (.tmp rfl .nil), rfl, rfl, rfl, ⟨rfl, rfl, trivial⟩⟩
  · have h := of_false hc1 h
    refine aw_skip ?_
    show AW _ _ _ _ _
    refine aw_seq ?_
    refine aw_seq ?_
    obtain ⟨v2, hv2, h⟩ := bind_some h
    refine aw_region (.cons (.plain rfl (c_move rfl rfl (by decide) .tmp)) ⟨rfl, trivial⟩ rfl <| .cons (.plain rfl (c_call (ins := [.one (.t (.sl (p0.map e57)))]) (caps := []) rfl rfl rfl (by decide) .clo (topo_Procs_calls _ _ hv2) (.cons .tmp .nil) rfl rfl)) ⟨rfl, trivial⟩ rfl <| .cons (.plain rfl (c_assign rfl rfl (by decide) .tmp)) ⟨rfl, trivial⟩ rfl <| .nil) ?_
    show AW _ _ _ _ _
    refine aw_seq ?_
    refine aw_cut0 (fun v3 : Bool => [(.tmp 1, .m (.one (.t (.v (.int .i64 p1))))), (.tmp 5, .m (.one (.t (.sl (v2.map e3))))), (.tmp 18, .m (.one (.t (.v (.bool v3)))))]) h (fun _ h => ?_) (fun v3 h => ?_)
    · cases hc3 : decide (0 ≤ p1) with
      | true =>
        have h := of_true hc3 h
        refine aw_region (.cons (.plain rfl (c_move rfl rfl (by decide) .tmp)) ⟨rfl, trivial⟩ rfl <| .cons (.plain rfl (c_geq rfl rfl (by decide) .tmp (.const rfl))) ⟨rfl, trivial⟩ rfl <| .cons (.plain rfl (c_move rfl rfl (by decide) .tmp)) ⟨rfl, trivial⟩ rfl <| .cons (.on (t := 13) rfl rfl (c_move rfl rfl (by decide) .tmp)) ⟨(congrArg mB hc3), rfl, trivial⟩ rfl <| .cons (.on (t := 13) rfl rfl (c_move rfl rfl (by decide) .tmp)) ⟨(congrArg mB hc3), rfl, trivial⟩ rfl <| .cons (.on (t := 13) rfl rfl (k_len (i := Try.t3) (l := v2) (f := e3) (fun _ => rfl) (by decide) rfl rfl (by decide) Try.underlying42 (src_tree (f := e3) (fun _ => rfl) (by decide) .tmp))) ⟨(congrArg mB hc3), rfl, trivial⟩ rfl <| .cons (.on (t := 13) rfl rfl (c_lss rfl rfl (by decide) .tmp .tmp)) ⟨(congrArg mB hc3), rfl, rfl, trivial⟩ rfl <| .cons (.plain rfl (c_pick (b := true) rfl rfl (by decide) .tmp rfl .tmp)) ⟨(congrArg mB hc3), rfl, trivial⟩ rfl <| .nil) ?_
        obtain rfl := Option.some.inj h
        show Goes _ _
        exact (Goes.into [] ⟨rfl, rfl, .refl, .refl, .refl, trivial⟩)
      | false =>
        have h := of_false hc3 h
        refine aw_region (.cons (.plain rfl (c_move rfl rfl (by decide) .tmp)) ⟨rfl, trivial⟩ rfl <| .cons (.plain rfl (c_geq rfl rfl (by decide) .tmp (.const rfl))) ⟨rfl, trivial⟩ rfl <| .cons (.plain rfl (c_move rfl rfl (by decide) .tmp)) ⟨rfl, trivial⟩ rfl <| .cons (.off (b' := false) rfl rfl rfl rfl (by decide)) ⟨(congrArg mB hc3), trivial⟩ rfl <| .cons (.off (b' := false) rfl rfl rfl rfl (by decide)) ⟨(congrArg mB hc3), trivial⟩ rfl <| .cons (.off (b' := false) rfl rfl rfl rfl (by decide)) ⟨(congrArg mB hc3), trivial⟩ rfl <| .cons (.off (b' := false) rfl rfl rfl rfl (by decide)) ⟨(congrArg mB hc3), trivial⟩ rfl <| .cons (.plain rfl (c_pick (b := false) rfl rfl (by decide) .tmp rfl (.const rfl))) ⟨(congrArg mB hc3), trivial⟩ rfl <| .nil) ?_
        obtain rfl := Option.some.inj h
        show Goes _ _
        exact (Goes.into [] ⟨rfl, rfl, .refl, .refl, .refl, trivial⟩)
    · show AW _ _ _ _ _
      refine aw_cond .tmp ⟨rfl, trivial⟩ (fun hc4 => ?_) (fun hc4 => ?_)
      · have h := of_true hc4 h
        refine aw_seq ?_
        obtain ⟨v4, hv4, h⟩ := bind_some h
        refine aw_region (.cons (.plain rfl (c_move rfl rfl (by decide) .tmp)) ⟨rfl, trivial⟩ rfl <| .cons (.plain rfl (c_move rfl rfl (by decide) .tmp)) ⟨rfl, trivial⟩ rfl <| .cons (.plain rfl (k_index (f := e3) (i := Try.t3) hv4 rfl rfl rfl (by decide) Try.underlying42 i3 .tmp .tmp)) ⟨rfl, rfl, trivial⟩ rfl <| .cons (.plain rfl (c_loadTree rfl rfl (by decide) Try.isAgg3 .tmp rfl)) ⟨rfl, trivial⟩ rfl <| .cons (.plain rfl (c_assign rfl rfl (by decide) .tmp)) ⟨rfl, trivial⟩ rfl <| .nil) ?_
        show AW _ _ _ _ _
        refine aw_goes (σ' := [(.tmp 4, .m (.one (.t (.v (.int .i64 v4)))))]) (Goes.into [] ⟨rfl, rfl, .refl, trivial⟩) ?_
        refine aw_ret ?_
        obtain rfl := Option.some.inj h
        exact ⟨.inr rfl, _, [], (.tmp rfl .nil), rfl, rfl, rfl, ⟨rfl, rfl, trivial⟩⟩
      · have h := of_false hc4 h
        refine aw_skip ?_
        show AW _ _ _ _ _
        refine aw_seq ?_
        refine aw_region (.cons (.plain rfl (c_assign rfl rfl (by decide) (.const rfl))) trivial rfl <| .nil) ?_
        show AW _ _ _ _ _
        refine aw_goes (σ' := [(.tmp 4, .m (.one (.t (.v (.int .i64 ((-1)))))))]) (Goes.into [] ⟨rfl, rfl, .refl, trivial⟩) ?_
        refine aw_ret ?_
        obtain rfl := Option.some.inj h
        exact ⟨.inr rfl, _, [], (.tmp rfl .nil), rfl, rfl, rfl, ⟨rfl, rfl, trivial⟩⟩

noncomputable def slices_SortFunc_int (p0 : List Int) (p1 : Int → Int → Option Int) : Option (List Int) := sortO p0 p1
theorem slices_SortFunc_int_row (p0 : List Int) (p1 : Int → Int → Option Int) {p1g : FuncId} {p1c : List (List T)} (Hp1 : ∀ x0 x1 r, p1 x0 x1 = some r → ACalls Try.prog p1g ([.one (.t (.v (.int .i64 x0))), .one (.t (.v (.int .i64 x1)))] ++ p1c.map fun cs => .one (.tptr cs 0)) [] (.one (.t (.v (.int .i64 r)))) []) (r : List Int) (h : slices_SortFunc_int p0 p1 = some r) : ACalls Try.prog 75 [.one (.row 1000000), .one (.t (.clo p1g p1c))] [(.row 1000000, .r 3 1 (p0.map e3))] (.tup []) [(.row 1000000, .r 3 1 (r.map e3))] := acalls_sort Try.sortL Try.call75 p0 p1 Hp1 r h

def topo_Up_L1 (p0 : List (Int × Int)) (p2 : Int) (v11 : Int) : Option (Int ⊕ (Unit ⊕ Int)) := (bif decide (0 ≤ v11) then some (decide (v11 < (p0.length : Int))) else some false : Option Bool).bind fun v13 => bif v13 then (at_ p0 v11).bind fun v14 => bif decide (v14.2 = p2) then some (.inr (.inr v11)) else (at_ p0 v11).bind fun v15 => bif decide (v11 ≤ v15.1) then some (.inr (.inr ((-1)))) else (at_ p0 v11).bind fun v16 => some (.inl v16.1) else some (.inr (.inl (())))
def topo_Up (p0 : List (Int × Int)) (p1 : Int) (p2 : Int) : Option Int := (loopO (topo_Up_L1 p0 p2) fuel p1).bind fun s => s.elim (fun v12 => some ((-1))) (fun j : Int => some j)
theorem topo_Up_calls (p0 : List (Int × Int)) (p1 : Int) (p2 : Int) (r : Int) (h : topo_Up p0 p1 p2 = some r) : ACalls Try.prog 53 [.one (.t (.sl (p0.map e57))), .one (.t (.v (.int .i64 p1))), .one (.t (.v (.int .i64 p2)))] [] (.one (.t (.v (.int .i64 r)))) [] := by
  unfold topo_Up at h
  refine acalls_of_AW Try.func53 rfl Try.call53 (by decide) (show 3 ≤ 35 by decide) rfl rfl ?_
  refine aw_seq ?_
  refine aw_region (.cons (.plain rfl (c_assign rfl rfl (by decide) (.const rfl))) trivial rfl <| .nil) ?_
  show AW _ _ _ _ _
  refine aw_seq ?_
  refine aw_loopJ (fun v11 : Int => [(.tmp 0, .m (.one (.t (.sl (p0.map e57))))), (.tmp 1, .m (.one (.t (.v (.int .i64 v11))))), (.tmp 2, .m (.one (.t (.v (.int .i64 p2)))))]) (fun v12 : Unit => []) h (Goes.into [] ⟨rfl, rfl, .refl, .refl, .refl, trivial⟩) (fun v11 _ h => ?_) (fun v12 h => ?_)
  · unfold topo_Up_L1 at h
    refine aw_seq ?_
    refine aw_seq ?_
    refine aw_cut0 (fun v13 : Bool => [(.tmp 0, .m (.one (.t (.sl (p0.map e57))))), (.tmp 1, .m (.one (.t (.v (.int .i64 v11))))), (.tmp 2, .m (.one (.t (.v (.int .i64 p2))))), (.tmp 14, .m (.one (.t (.v (.bool v13)))))]) h (fun _ h => ?_) (fun v13 h => ?_)
    · cases hc12 : decide (0 ≤ v11) with
      | true =>
        have h := of_true hc12 h
        refine aw_region (.cons (.plain rfl (c_move rfl rfl (by decide) .tmp)) ⟨rfl, trivial⟩ rfl <| .cons (.plain rfl (c_geq rfl rfl (by decide) .tmp (.const rfl))) ⟨rfl, trivial⟩ rfl <| .cons (.plain rfl (c_move rfl rfl (by decide) .tmp)) ⟨rfl, trivial⟩ rfl <| .cons (.on (t := 9) rfl rfl (c_move rfl rfl (by decide) .tmp)) ⟨(congrArg mB hc12), rfl, trivial⟩ rfl <| .cons (.on (t := 9) rfl rfl (c_move rfl rfl (by decide) .tmp)) ⟨(congrArg mB hc12), rfl, trivial⟩ rfl <| .cons (.on (t := 9) rfl rfl (k_len (i := Try.t57) (l := p0) (f := e57) (fun _ => rfl) (by decide) rfl rfl (by decide) Try.underlying22 (src_tree (f := e57) (fun _ => rfl) (by decide) .tmp))) ⟨(congrArg mB hc12), rfl, trivial⟩ rfl <| .cons (.on (t := 9) rfl rfl (c_lss rfl rfl (by decide) .tmp .tmp)) ⟨(congrArg mB hc12), rfl, rfl, trivial⟩ rfl <| .cons (.plain rfl (c_pick (b := true) rfl rfl (by decide) .tmp rfl .tmp)) ⟨(congrArg mB hc12), rfl, trivial⟩ rfl <| .nil) ?_
        obtain rfl := Option.some.inj h
        show Goes _ _
        exact (Goes.into [] ⟨rfl, rfl, .refl, .refl, .refl, .refl, trivial⟩)
      | false =>
        have h := of_false hc12 h
        refine aw_region (.cons (.plain rfl (c_move rfl rfl (by decide) .tmp)) ⟨rfl, trivial⟩ rfl <| .cons (.plain rfl (c_geq rfl rfl (by decide) .tmp (.const rfl))) ⟨rfl, trivial⟩ rfl <| .cons (.plain rfl (c_move rfl rfl (by decide) .tmp)) ⟨rfl, trivial⟩ rfl <| .cons (.off (b' := false) rfl rfl rfl rfl (by decide)) ⟨(congrArg mB hc12), trivial⟩ rfl <| .cons (.off (b' := false) rfl rfl rfl rfl (by decide)) ⟨(congrArg mB hc12), trivial⟩ rfl <| .cons (.off (b' := false) rfl rfl rfl rfl (by decide)) ⟨(congrArg mB hc12), trivial⟩ rfl <| .cons (.off (b' := false) rfl rfl rfl rfl (by decide)) ⟨(congrArg mB hc12), trivial⟩ rfl <| .cons (.plain rfl (c_pick (b := false) rfl rfl (by decide) .tmp rfl (.const rfl))) ⟨(congrArg mB hc12), trivial⟩ rfl <| .nil) ?_
        obtain rfl := Option.some.inj h
        show Goes _ _
        exact (Goes.into [] ⟨rfl, rfl, .refl, .refl, .refl, .refl, trivial⟩)
    · show AW _ _ _ _ _
      refine aw_cond .tmp ⟨rfl, trivial⟩ (fun hc13 => ?_) (fun hc13 => ?_)
      · have h := of_true hc13 h
        refine aw_skip ?_
        show AW _ _ _ _ _
        refine aw_block ?_
        refine aw_seq ?_
        refine aw_seq ?_
        obtain ⟨v14, hv14, h⟩ := bind_some h
        refine aw_region (.cons (.plain rfl (c_move rfl rfl (by decide) .tmp)) ⟨rfl, trivial⟩ rfl <| .cons (.plain rfl (c_move rfl rfl (by decide) .tmp)) ⟨rfl, trivial⟩ rfl <| .cons (.plain rfl (k_index (f := e57) (i := Try.t57) hv14 rfl rfl rfl (by decide) Try.underlying22 i57 .tmp .tmp)) ⟨rfl, rfl, trivial⟩ rfl <| .cons (.plain rfl (k_fieldT 3 1 rfl rfl (by decide) Try.underlying57 rfl i3 (by decide) .tmp)) ⟨rfl, trivial⟩ rfl <| .cons (.plain rfl (c_loadTree rfl rfl (by decide) Try.isAgg3 .tmp rfl)) ⟨rfl, trivial⟩ rfl <| .cons (.plain rfl (c_move rfl rfl (by decide) .tmp)) ⟨rfl, trivial⟩ rfl <| .cons (.plain rfl (c_eql rfl rfl (by decide) .tmp .tmp)) ⟨rfl, rfl, trivial⟩ rfl <| .nil) ?_
        show AW _ _ _ _ _
        refine aw_cond .tmp ⟨rfl, trivial⟩ (fun hc14 => ?_) (fun hc14 => ?_)
        · have h := of_true hc14 h
          refine aw_seq ?_
          refine aw_region (.cons (.plain rfl (c_move rfl rfl (by decide) .tmp)) ⟨rfl, trivial⟩ rfl <| .cons (.plain rfl (c_assign rfl rfl (by decide) .tmp)) ⟨rfl, trivial⟩ rfl <| .nil) ?_
          show AW _ _ _ _ _
          refine aw_goes (σ' := [(.tmp 6, .m (.one (.t (.v (.int .i64 v11)))))]) (Goes.into [] ⟨rfl, rfl, .refl, trivial⟩) ?_
          refine aw_ret ?_
          obtain rfl := Option.some.inj h
          refine ⟨_, rfl, fun h => ?_⟩
          obtain rfl := Option.some.inj h
          exact ⟨.inr rfl, _, [], (.tmp rfl .nil), rfl, rfl, rfl, ⟨rfl, rfl, trivial⟩⟩
        · have h := of_false hc14 h
          refine aw_skip ?_
          show AW _ _ _ _ _
          refine aw_seq ?_
          refine aw_seq ?_
          obtain ⟨v15, hv15, h⟩ := bind_some h
          refine aw_region (.cons (.plain rfl (c_move rfl rfl (by decide) .tmp)) ⟨rfl, trivial⟩ rfl <| .cons (.plain rfl (c_move rfl rfl (by decide) .tmp)) ⟨rfl, trivial⟩ rfl <| .cons (.plain rfl (k_index (f := e57) (i := Try.t57) hv15 rfl rfl rfl (by decide) Try.underlying22 i57 .tmp .tmp)) ⟨rfl, rfl, trivial⟩ rfl <| .cons (.plain rfl (k_fieldT 3 0 rfl rfl (by decide) Try.underlying57 rfl i3 (by decide) .tmp)) ⟨rfl, trivial⟩ rfl <| .cons (.plain rfl (c_loadTree rfl rfl (by decide) Try.isAgg3 .tmp rfl)) ⟨rfl, trivial⟩ rfl <| .cons (.plain rfl (c_move rfl rfl (by decide) .tmp)) ⟨rfl, trivial⟩ rfl <| .cons (.plain rfl (c_geq rfl rfl (by decide) .tmp .tmp)) ⟨rfl, rfl, trivial⟩ rfl <| .nil) ?_
          show AW _ _ _ _ _
          refine aw_cond .tmp ⟨rfl, trivial⟩ (fun hc15 => ?_) (fun hc15 => ?_)
          · have h := of_true hc15 h
            refine aw_seq ?_
            refine aw_region (.cons (.plain rfl (c_assign rfl rfl (by decide) (.const rfl))) trivial rfl <| .nil) ?_
            show AW _ _ _ _ _
            refine aw_goes (σ' := [(.tmp 6, .m (.one (.t (.v (.int .i64 ((-1)))))))]) (Goes.into [] ⟨rfl, rfl, .refl, trivial⟩) ?_
            refine aw_ret ?_
            obtain rfl := Option.some.inj h
            refine ⟨_, rfl, fun h => ?_⟩
            obtain rfl := Option.some.inj h
            exact ⟨.inr rfl, _, [], (.tmp rfl .nil), rfl, rfl, rfl, ⟨rfl, rfl, trivial⟩⟩
          · have h := of_false hc15 h
            refine aw_skip ?_
            show AW _ _ _ _ _
            obtain ⟨v16, hv16, h⟩ := bind_some h
            refine aw_region (.cons (.plain rfl (c_move rfl rfl (by decide) .tmp)) ⟨rfl, trivial⟩ rfl <| .cons (.plain rfl (c_move rfl rfl (by decide) .tmp)) ⟨rfl, trivial⟩ rfl <| .cons (.plain rfl (k_index (f := e57) (i := Try.t57) hv16 rfl rfl rfl (by decide) Try.underlying22 i57 .tmp .tmp)) ⟨rfl, rfl, trivial⟩ rfl <| .cons (.plain rfl (k_fieldT 3 0 rfl rfl (by decide) Try.underlying57 rfl i3 (by decide) .tmp)) ⟨rfl, trivial⟩ rfl <| .cons (.plain rfl (c_loadTree rfl rfl (by decide) Try.isAgg3 .tmp rfl)) ⟨rfl, trivial⟩ rfl <| .cons (.plain rfl (c_assign rfl rfl (by decide) .tmp)) ⟨rfl, trivial⟩ rfl <| .nil) ?_
            obtain rfl := Option.some.inj h
            exact ⟨_, rfl, (Goes.into [] ⟨rfl, rfl, .refl, .refl, .refl, trivial⟩)⟩
      · have h := of_false hc13 h
        refine aw_exit ?_
        obtain rfl := Option.some.inj h
        exact ⟨_, rfl, (Goes.into [] ⟨rfl, rfl, trivial⟩)⟩
  · show AW _ _ _ _ _
    refine aw_seq ?_
    refine aw_region (.cons (.plain rfl (c_assign rfl rfl (by decide) (.const rfl))) trivial rfl <| .nil) ?_
    show AW _ _ _ _ _
    refine aw_goes (σ' := [(.tmp 6, .m (.one (.t (.v (.int .i64 ((-1)))))))]) (Goes.into [] ⟨rfl, rfl, .refl, trivial⟩) ?_
    refine aw_ret ?_
    obtain rfl := Option.some.inj h
    exact ⟨.inr rfl, _, [], (.tmp rfl .nil), rfl, rfl, rfl, ⟨rfl, rfl, trivial⟩⟩

def dist_Far_L1 (p0 : List (Int × Int)) (v1 : Int) (v2 : Int) (v10 : Int) : Option (Int ⊕ (Unit ⊕ Int)) := (topo_Up p0 v1 (wi64 (3 - v10))).bind fun v12 => (topo_Up p0 v2 (wi64 (3 - v10))).bind fun v13 => bif decide (v12 = v13) then some (.inr (.inr v10)) else some (.inl (wi64 (v10 + 1)))
def dist_Far (p0 : List (Int × Int)) (p1 : Int) (p2 : Int) : Option Int := (dist_proc p0 p1).bind fun v1 => (dist_proc p0 p2).bind fun v2 => (bif decide (v1 < 0) then some true else some (decide (v2 < 0)) : Option Bool).bind fun v3 => bif v3 then some ((-1)) else (loopO (dist_Far_L1 p0 v1 v2) fuel 0).bind fun s => s.elim (fun v11 => none) (fun j : Int => some j)
theorem dist_Far_calls (p0 : List (Int × Int)) (p1 : Int) (p2 : Int) (r : Int) (h : dist_Far p0 p1 p2 = some r) : ACalls Try.prog 25 [.one (.t (.sl (p0.map e57))), .one (.t (.v (.int .i64 p1))), .one (.t (.v (.int .i64 p2)))] [] (.one (.t (.v (.int .i64 r)))) [] := by
  unfold dist_Far at h
  refine acalls_of_AW Try.func25 rfl Try.call25 (by decide) (show 3 ≤ 37 by decide) rfl rfl ?_
  refine aw_seq ?_
  refine aw_region (.cons (.plain rfl (c_assign rfl rfl (by decide) (.const rfl))) trivial rfl <| .nil) ?_
  show AW _ _ _ _ _
  refine aw_seq ?_
  obtain ⟨v1, hv1, h⟩ := bind_some h
  obtain ⟨v2, hv2, h⟩ := bind_some h
  refine aw_region (.cons (.plain rfl (c_move rfl rfl (by decide) .tmp)) ⟨rfl, trivial⟩ rfl <| .cons (.plain rfl (c_move rfl rfl (by decide) .tmp)) ⟨rfl, trivial⟩ rfl <| .cons (.plain rfl (c_call (ins := [.one (.t (.sl (p0.map e57))), .one (.t (.v (.int .i64 p1)))]) (caps := []) rfl rfl rfl (by decide) .clo (dist_proc_calls _ _ _ hv1) (.cons .tmp (.cons .tmp .nil)) rfl rfl)) ⟨rfl, rfl, trivial⟩ rfl <| .cons (.plain rfl (c_move rfl rfl (by decide) .tmp)) ⟨rfl, trivial⟩ rfl <| .cons (.plain rfl (c_move rfl rfl (by decide) .tmp)) ⟨rfl, trivial⟩ rfl <| .cons (.plain rfl (c_call (ins := [.one (.t (.sl (p0.map e57))), .one (.t (.v (.int .i64 p2)))]) (caps := []) rfl rfl rfl (by decide) .clo (dist_proc_calls _ _ _ hv2) (.cons .tmp (.cons .tmp .nil)) rfl rfl)) ⟨rfl, rfl, trivial⟩ rfl <| .cons (.plain rfl (c_assign rfl rfl (by decide) .tmp)) ⟨rfl, trivial⟩ rfl <| .cons (.plain rfl (c_assign rfl rfl (by decide) .tmp)) ⟨rfl, trivial⟩ rfl <| .nil) ?_
  show AW _ _ _ _ _
  refine aw_seq ?_
  refine aw_seq ?_
  refine aw_cut0 (fun v3 : Bool => [(.tmp 0, .m (.one (.t (.sl (p0.map e57))))), (.tmp 7, .m (.one (.t (.v (.int .i64 v1))))), (.tmp 8, .m (.one (.t (.v (.int .i64 v2))))), (.tmp 22, .m (.one (.t (.v (.bool v3)))))]) h (fun _ h => ?_) (fun v3 h => ?_)
  · cases hc2 : decide (v1 < 0) with
    | true =>
      have h := of_true hc2 h
      refine aw_region (.cons (.plain rfl (c_move rfl rfl (by decide) .tmp)) ⟨rfl, trivial⟩ rfl <| .cons (.plain rfl (c_lss rfl rfl (by decide) .tmp (.const rfl))) ⟨rfl, trivial⟩ rfl <| .cons (.plain rfl (c_move rfl rfl (by decide) .tmp)) ⟨rfl, trivial⟩ rfl <| .cons (.off (b' := true) rfl rfl rfl rfl (by decide)) ⟨(congrArg mB hc2), trivial⟩ rfl <| .cons (.off (b' := true) rfl rfl rfl rfl (by decide)) ⟨(congrArg mB hc2), trivial⟩ rfl <| .cons (.plain rfl (c_pick (b := true) rfl rfl (by decide) .tmp rfl (.const rfl))) ⟨(congrArg mB hc2), trivial⟩ rfl <| .nil) ?_
      obtain rfl := Option.some.inj h
      show Goes _ _
      exact (Goes.into [] ⟨rfl, rfl, .refl, .refl, .refl, .refl, trivial⟩)
    | false =>
      have h := of_false hc2 h
      refine aw_region (.cons (.plain rfl (c_move rfl rfl (by decide) .tmp)) ⟨rfl, trivial⟩ rfl <| .cons (.plain rfl (c_lss rfl rfl (by decide) .tmp (.const rfl))) ⟨rfl, trivial⟩ rfl <| .cons (.plain rfl (c_move rfl rfl (by decide) .tmp)) ⟨rfl, trivial⟩ rfl <| .cons (.on (t := 19) rfl rfl (c_move rfl rfl (by decide) .tmp)) ⟨(congrArg mB hc2), rfl, trivial⟩ rfl <| .cons (.on (t := 19) rfl rfl (c_lss rfl rfl (by decide) .tmp (.const rfl))) ⟨(congrArg mB hc2), rfl, trivial⟩ rfl <| .cons (.plain rfl (c_pick (b := false) rfl rfl (by decide) .tmp rfl .tmp)) ⟨(congrArg mB hc2), rfl, trivial⟩ rfl <| .nil) ?_
      obtain rfl := Option.some.inj h
      show Goes _ _
      exact (Goes.into [] ⟨rfl, rfl, .refl, .refl, .refl, .refl, trivial⟩)
  · show AW _ _ _ _ _
    refine aw_cond .tmp ⟨rfl, trivial⟩ (fun hc3 => ?_) (fun hc3 => ?_)
    · have h := of_true hc3 h
      refine aw_seq ?_
      refine aw_region (.cons (.plain rfl (c_assign rfl rfl (by decide) (.const rfl))) trivial rfl <| .nil) ?_
      show AW _ _ _ _ _
      refine aw_goes (σ' := [(.tmp 6, .m (.one (.t (.v (.int .i64 ((-1)))))))]) (Goes.into [] ⟨rfl, rfl, .refl, trivial⟩) ?_
      refine aw_ret ?_
      obtain rfl := Option.some.inj h
      exact ⟨.inr rfl, _, [], (.tmp rfl .nil), rfl, rfl, rfl, ⟨rfl, rfl, trivial⟩⟩
    · have h := of_false hc3 h
      refine aw_skip ?_
      show AW _ _ _ _ _
      refine aw_seq ?_
      refine aw_region (.cons (.plain rfl (c_assign rfl rfl (by decide) (.const rfl))) trivial rfl <| .nil) ?_
      show AW _ _ _ _ _
      refine aw_loopJ (fun v10 : Int => [(.tmp 0, .m (.one (.t (.sl (p0.map e57))))), (.tmp 7, .m (.one (.t (.v (.int .i64 v1))))), (.tmp 8, .m (.one (.t (.v (.int .i64 v2))))), (.tmp 9, .m (.one (.t (.v (.int .i64 v10)))))]) (fun v11 : Unit => []) h (Goes.into [] ⟨rfl, rfl, .refl, .refl, .refl, .refl, trivial⟩) (fun v10 _ h => ?_) (fun v11 h => ?_)
      · unfold dist_Far_L1 at h
        refine aw_seq ?_
        refine aw_block ?_
        refine aw_seq ?_
        refine aw_region (.cons (.plain rfl (c_move rfl rfl (by decide) .tmp)) ⟨rfl, trivial⟩ rfl <| .cons (.plain rfl (c_sub rfl rfl (by decide) (.const rfl) .tmp)) ⟨rfl, trivial⟩ rfl <| .cons (.plain rfl (c_assign rfl rfl (by decide) .tmp)) ⟨rfl, trivial⟩ rfl <| .nil) ?_
        show AW _ _ _ _ _
        refine aw_seq ?_
        obtain ⟨v12, hv12, h⟩ := bind_some h
        obtain ⟨v13, hv13, h⟩ := bind_some h
        refine aw_region (.cons (.plain rfl (c_move rfl rfl (by decide) .tmp)) ⟨rfl, trivial⟩ rfl <| .cons (.plain rfl (c_move rfl rfl (by decide) .tmp)) ⟨rfl, trivial⟩ rfl <| .cons (.plain rfl (c_move rfl rfl (by decide) .tmp)) ⟨rfl, trivial⟩ rfl <| .cons (.plain rfl (c_call (ins := [.one (.t (.sl (p0.map e57))), .one (.t (.v (.int .i64 v1))), .one (.t (.v (.int .i64 (wi64 (3 - v10)))))]) (caps := []) rfl rfl rfl (by decide) .clo (topo_Up_calls _ _ _ _ hv12) (.cons .tmp (.cons .tmp (.cons .tmp .nil))) rfl rfl)) ⟨rfl, rfl, rfl, trivial⟩ rfl <| .cons (.plain rfl (c_move rfl rfl (by decide) .tmp)) ⟨rfl, trivial⟩ rfl <| .cons (.plain rfl (c_move rfl rfl (by decide) .tmp)) ⟨rfl, trivial⟩ rfl <| .cons (.plain rfl (c_move rfl rfl (by decide) .tmp)) ⟨rfl, trivial⟩ rfl <| .cons (.plain rfl (c_call (ins := [.one (.t (.sl (p0.map e57))), .one (.t (.v (.int .i64 v2))), .one (.t (.v (.int .i64 (wi64 (3 - v10)))))]) (caps := []) rfl rfl rfl (by decide) .clo (topo_Up_calls _ _ _ _ hv13) (.cons .tmp (.cons .tmp (.cons .tmp .nil))) rfl rfl)) ⟨rfl, rfl, rfl, trivial⟩ rfl <| .cons (.plain rfl (c_eql rfl rfl (by decide) .tmp .tmp)) ⟨rfl, rfl, trivial⟩ rfl <| .nil) ?_
        show AW _ _ _ _ _
        refine aw_cond .tmp ⟨rfl, trivial⟩ (fun hc6 => ?_) (fun hc6 => ?_)
        · have h := of_true hc6 h
          refine aw_seq ?_
          refine aw_region (.cons (.plain rfl (c_move rfl rfl (by decide) .tmp)) ⟨rfl, trivial⟩ rfl <| .cons (.plain rfl (c_assign rfl rfl (by decide) .tmp)) ⟨rfl, trivial⟩ rfl <| .nil) ?_
          show AW _ _ _ _ _
          refine aw_goes (σ' := [(.tmp 6, .m (.one (.t (.v (.int .i64 v10)))))]) (Goes.into [] ⟨rfl, rfl, .refl, trivial⟩) ?_
          refine aw_ret ?_
          obtain rfl := Option.some.inj h
          refine ⟨_, rfl, fun h => ?_⟩
          obtain rfl := Option.some.inj h
          exact ⟨.inr rfl, _, [], (.tmp rfl .nil), rfl, rfl, rfl, ⟨rfl, rfl, trivial⟩⟩
        · have h := of_false hc6 h
          refine aw_skip ?_
          show AW _ _ _ _ _
          refine aw_region (.cons (.plain rfl (c_move rfl rfl (by decide) .tmp)) ⟨rfl, trivial⟩ rfl <| .cons (.plain rfl (c_add rfl rfl (by decide) .tmp (.const rfl))) ⟨rfl, trivial⟩ rfl <| .cons (.plain rfl (c_assign rfl rfl (by decide) .tmp)) ⟨rfl, trivial⟩ rfl <| .nil) ?_
          obtain rfl := Option.some.inj h
          exact ⟨_, rfl, (Goes.into [] ⟨rfl, rfl, .refl, .refl, .refl, .refl, trivial⟩)⟩
      · cases h

def cmp_Or_int_L1 (p0 : List (Int)) (v5 : Int) : Option (Int ⊕ (Unit ⊕ Int)) := bif decide (v5 < (p0.length : Int)) then (at_ p0 v5).bind fun v7 => bif !decide (v7 = 0) then some (.inr (.inr v7)) else some (.inl (wi64 (v5 + 1))) else some (.inr (.inl (())))
def cmp_Or_int (p0 : List (Int)) : Option Int := (loopO (cmp_Or_int_L1 p0) fuel 0).bind fun s => s.elim (fun v6 => some 0) (fun j : Int => some j)
theorem cmp_Or_int_calls (p0 : List (Int)) (r : Int) (h : cmp_Or_int p0 = some r) : ACalls Try.prog 77 [.one (.t (.sl (p0.map e3)))] [] (.one (.t (.v (.int .i64 r)))) [] := by
  unfold cmp_Or_int at h
  refine acalls_of_AW Try.func77 rfl Try.call77 (by decide) (show 1 ≤ 18 by decide) rfl rfl ?_
  refine aw_seq ?_
  refine aw_region (.cons (.plain rfl (c_assign rfl rfl (by decide) (.const rfl))) trivial rfl <| .nil) ?_
  show AW _ _ _ _ _
  refine aw_seq ?_
  refine aw_region (.cons (.plain rfl (c_assign rfl rfl (by decide) (.const rfl))) trivial rfl <| .nil) ?_
  show AW _ _ _ _ _
  refine aw_seq ?_
  refine aw_seq ?_
  refine aw_region (.cons (.plain rfl (c_move rfl rfl (by decide) .tmp)) ⟨rfl, trivial⟩ rfl <| .cons (.plain rfl (k_len (i := Try.t3) (l := p0) (f := e3) (fun _ => rfl) (by decide) rfl rfl (by decide) Try.underlying42 (src_tree (f := e3) (fun _ => rfl) (by decide) .tmp))) ⟨rfl, trivial⟩ rfl <| .cons (.plain rfl (c_move rfl rfl (by decide) (.const rfl))) trivial rfl <| .nil) ?_
  show AW _ _ _ _ _
  refine aw_loopJ (fun v5 : Int => [(.tmp 3, .m (.one (.t (.v (.int .i64 0))))), (.tmp 6, .m (.one (.t (.sl (p0.map e3))))), (.tmp 7, .m (.one (.t (.v (.int .i64 ((p0.length : Int))))))), (.tmp 8, .m (.one (.t (.v (.int .i64 v5)))))]) (fun v6 : Unit => [(.tmp 3, .m (.one (.t (.v (.int .i64 0)))))]) h (Goes.into [] ⟨rfl, rfl, .refl, .refl, .refl, .refl, trivial⟩) (fun v5 _ h => ?_) (fun v6 h => ?_)
  · unfold cmp_Or_int_L1 at h
    refine aw_seq ?_
    refine aw_region (.cons (.plain rfl (c_lss rfl rfl (by decide) .tmp .tmp)) ⟨rfl, rfl, trivial⟩ rfl <| .nil) ?_
    show AW _ _ _ _ _
    refine aw_seq ?_
    refine aw_cond .tmp ⟨rfl, trivial⟩ (fun hc5 => ?_) (fun hc5 => ?_)
    · have h := of_true hc5 h
      refine aw_skip ?_
      show AW _ _ _ _ _
      refine aw_seq ?_
      refine aw_block ?_
      refine aw_seq ?_
      obtain ⟨v7, hv7, h⟩ := bind_some h
      refine aw_region (.cons (.plain rfl (k_index (f := e3) (i := Try.t3) hv7 rfl rfl rfl (by decide) Try.underlying42 i3 .tmp .tmp)) ⟨rfl, rfl, trivial⟩ rfl <| .cons (.plain rfl (c_loadTree rfl rfl (by decide) Try.isAgg3 .tmp rfl)) ⟨rfl, trivial⟩ rfl <| .cons (.plain rfl (c_assign rfl rfl (by decide) .tmp)) ⟨rfl, trivial⟩ rfl <| .nil) ?_
      show AW _ _ _ _ _
      refine aw_seq ?_
      refine aw_region (.cons (.plain rfl (c_move rfl rfl (by decide) .tmp)) ⟨rfl, trivial⟩ rfl <| .cons (.plain rfl (c_move rfl rfl (by decide) .tmp)) ⟨rfl, trivial⟩ rfl <| .cons (.plain rfl (c_neq rfl rfl (by decide) .tmp .tmp)) ⟨rfl, rfl, trivial⟩ rfl <| .nil) ?_
      show AW _ _ _ _ _
      refine aw_cond .tmp ⟨rfl, trivial⟩ (fun hc6 => ?_) (fun hc6 => ?_)
      · have h := of_true hc6 h
        refine aw_seq ?_
        refine aw_region (.cons (.plain rfl (c_move rfl rfl (by decide) .tmp)) ⟨rfl, trivial⟩ rfl <| .cons (.plain rfl (c_assign rfl rfl (by decide) .tmp)) ⟨rfl, trivial⟩ rfl <| .nil) ?_
        show AW _ _ _ _ _
        refine aw_goes (σ' := [(.tmp 2, .m (.one (.t (.v (.int .i64 v7)))))]) (Goes.into [] ⟨rfl, rfl, .refl, trivial⟩) ?_
        refine aw_ret ?_
        obtain rfl := Option.some.inj h
        refine ⟨_, rfl, fun h => ?_⟩
        obtain rfl := Option.some.inj h
        exact ⟨.inr rfl, _, [], (.tmp rfl .nil), rfl, rfl, rfl, ⟨rfl, rfl, trivial⟩⟩
      · have h := of_false hc6 h
        refine aw_skip ?_
        show AW _ _ _ _ _
        refine aw_region (.cons (.plain rfl (c_add rfl rfl (by decide) .tmp (.const rfl))) ⟨rfl, trivial⟩ rfl <| .cons (.plain rfl (c_move rfl rfl (by decide) .tmp)) ⟨rfl, trivial⟩ rfl <| .nil) ?_
        obtain rfl := Option.some.inj h
        exact ⟨_, rfl, (Goes.into [] ⟨rfl, rfl, .refl, .refl, .refl, .refl, trivial⟩)⟩
    · have h := of_false hc5 h
      refine aw_exit ?_
      obtain rfl := Option.some.inj h
      exact ⟨_, rfl, (Goes.into [] ⟨rfl, rfl, .refl, trivial⟩)⟩
  · show AW _ _ _ _ _
    refine aw_seq ?_
    refine aw_region (.cons (.plain rfl (c_move rfl rfl (by decide) .tmp)) ⟨rfl, trivial⟩ rfl <| .cons (.plain rfl (c_assign rfl rfl (by decide) .tmp)) ⟨rfl, trivial⟩ rfl <| .nil) ?_
    show AW _ _ _ _ _
    refine aw_goes (σ' := [(.tmp 2, .m (.one (.t (.v (.int .i64 0)))))]) (Goes.into [] ⟨rfl, rfl, .refl, trivial⟩) ?_
    refine aw_ret ?_
    obtain rfl := Option.some.inj h
    exact ⟨.inr rfl, _, [], (.tmp rfl .nil), rfl, rfl, rfl, ⟨rfl, rfl, trivial⟩⟩

def cmp_isNaN_int (p0 : Int) : Option Bool := some (!decide (p0 = p0))
theorem cmp_isNaN_int_calls (p0 : Int) (r : Bool) (h : cmp_isNaN_int p0 = some r) : ACalls Try.prog 91 [.one (.t (.v (.int .i64 p0)))] [] (.one (.t (.v (.bool r)))) [] := by
  unfold cmp_isNaN_int at h
  refine acalls_of_AW Try.func91 rfl Try.call91 (by decide) (show 1 ≤ 6 by decide) rfl rfl ?_
  refine aw_seq ?_
  refine aw_region (.cons (.plain rfl (c_assign rfl rfl (by decide) (.const rfl))) trivial rfl <| .nil) ?_
  show AW _ _ _ _ _
  refine aw_seq ?_
  refine aw_region (.cons (.plain rfl (c_move rfl rfl (by decide) .tmp)) ⟨rfl, trivial⟩ rfl <| .cons (.plain rfl (c_move rfl rfl (by decide) .tmp)) ⟨rfl, trivial⟩ rfl <| .cons (.plain rfl (c_neq rfl rfl (by decide) .tmp .tmp)) ⟨rfl, rfl, trivial⟩ rfl <| .cons (.plain rfl (c_assign rfl rfl (by decide) .tmp)) ⟨rfl, trivial⟩ rfl <| .nil) ?_
  show AW _ _ _ _ _
  refine aw_goes (σ' := [(.tmp 2, .m (.one (.t (.v (.bool (!decide (p0 = p0)))))))]) (Goes.into [] ⟨rfl, rfl, .refl, trivial⟩) ?_
  refine aw_ret ?_
  obtain rfl := Option.some.inj h
  exact ⟨.inr rfl, _, [], (.tmp rfl .nil), rfl, rfl, rfl, ⟨rfl, rfl, trivial⟩⟩

def cmp_Compare_int (p0 : Int) (p1 : Int) : Option Int := (cmp_isNaN_int p0).bind fun v1 => (cmp_isNaN_int p1).bind fun v2 => bif v1 then bif v2 then some 0 else some ((-1)) else bif v2 then some 1 else bif decide (p0 < p1) then some ((-1)) else bif decide (p1 < p0) then some 1 else some 0
theorem cmp_Compare_int_calls (p0 : Int) (p1 : Int) (r : Int) (h : cmp_Compare_int p0 p1 = some r) : ACalls Try.prog 78 [.one (.t (.v (.int .i64 p0))), .one (.t (.v (.int .i64 p1)))] [] (.one (.t (.v (.int .i64 r)))) [] := by
  unfold cmp_Compare_int at h
  refine acalls_of_AW Try.func78 rfl Try.call78 (by decide) (show 2 ≤ 20 by decide) rfl rfl ?_
  refine aw_seq ?_
  refine aw_region (.cons (.plain rfl (c_assign rfl rfl (by decide) (.const rfl))) trivial rfl <| .nil) ?_
  show AW _ _ _ _ _
  refine aw_seq ?_
  obtain ⟨v1, hv1, h⟩ := bind_some h
  refine aw_region (.cons (.plain rfl (c_move rfl rfl (by decide) .tmp)) ⟨rfl, trivial⟩ rfl <| .cons (.plain rfl (c_call (ins := [.one (.t (.v (.int .i64 p0)))]) (caps := []) rfl rfl rfl (by decide) .clo (cmp_isNaN_int_calls _ _ hv1) (.cons .tmp .nil) rfl rfl)) ⟨rfl, trivial⟩ rfl <| .cons (.plain rfl (c_assign rfl rfl (by decide) .tmp)) ⟨rfl, trivial⟩ rfl <| .nil) ?_
  show AW _ _ _ _ _
  refine aw_seq ?_
  obtain ⟨v2, hv2, h⟩ := bind_some h
  refine aw_region (.cons (.plain rfl (c_move rfl rfl (by decide) .tmp)) ⟨rfl, trivial⟩ rfl <| .cons (.plain rfl (c_call (ins := [.one (.t (.v (.int .i64 p1)))]) (caps := []) rfl rfl rfl (by decide) .clo (cmp_isNaN_int_calls _ _ hv2) (.cons .tmp .nil) rfl rfl)) ⟨rfl, trivial⟩ rfl <| .cons (.plain rfl (c_assign rfl rfl (by decide) .tmp)) ⟨rfl, trivial⟩ rfl <| .nil) ?_
  show AW _ _ _ _ _
  refine aw_seq ?_
  refine aw_seq ?_
  refine aw_region (.cons (.plain rfl (c_move rfl rfl (by decide) .tmp)) ⟨rfl, trivial⟩ rfl <| .nil) ?_
  show AW _ _ _ _ _
  refine aw_cond .tmp ⟨rfl, trivial⟩ (fun hc1 => ?_) (fun hc1 => ?_)
  · have h := of_true hc1 h
    refine aw_seq ?_
    refine aw_seq ?_
    refine aw_region (.cons (.plain rfl (c_move rfl rfl (by decide) .tmp)) ⟨rfl, trivial⟩ rfl <| .nil) ?_
    show AW _ _ _ _ _
    refine aw_cond .tmp ⟨rfl, trivial⟩ (fun hc2 => ?_) (fun hc2 => ?_)
    · have h := of_true hc2 h
      refine aw_seq ?_
      refine aw_region (.cons (.plain rfl (c_assign rfl rfl (by decide) (.const rfl))) trivial rfl <| .nil) ?_
      show AW _ _ _ _ _
      refine aw_goes (σ' := [(.tmp 4, .m (.one (.t (.v (.int .i64 0)))))]) (Goes.into [] ⟨rfl, rfl, .refl, trivial⟩) ?_
      refine aw_ret ?_
      obtain rfl := Option.some.inj h
      exact ⟨.inr rfl, _, [], (.tmp rfl .nil), rfl, rfl, rfl, ⟨rfl, rfl, trivial⟩⟩
    · have h := of_false hc2 h
      refine aw_skip ?_
      show AW _ _ _ _ _
      refine aw_seq ?_
      refine aw_region (.cons (.plain rfl (c_assign rfl rfl (by decide) (.const rfl))) trivial rfl <| .nil) ?_
      show AW _ _ _ _ _
      refine aw_goes (σ' := [(.tmp 4, .m (.one (.t (.v (.int .i64 ((-1)))))))]) (Goes.into [] ⟨rfl, rfl, .refl, trivial⟩) ?_
      refine aw_ret ?_
      obtain rfl := Option.some.inj h
      exact ⟨.inr rfl, _, [], (.tmp rfl .nil), rfl, rfl, rfl, ⟨rfl, rfl, trivial⟩⟩
  · have h := of_false hc1 h
    refine aw_skip ?_
    show AW _ _ _ _ _
    refine aw_seq ?_
    refine aw_seq ?_
    refine aw_region (.cons (.plain rfl (c_move rfl rfl (by decide) .tmp)) ⟨rfl, trivial⟩ rfl <| .nil) ?_
    show AW _ _ _ _ _
    refine aw_cond .tmp ⟨rfl, trivial⟩ (fun hc3 => ?_) (fun hc3 => ?_)
    · have h := of_true hc3 h
      refine aw_seq ?_
      refine aw_region (.cons (.plain rfl (c_assign rfl rfl (by decide) (.const rfl))) trivial rfl <| .nil) ?_
      show AW _ _ _ _ _
      refine aw_goes (σ' := [(.tmp 4, .m (.one (.t (.v (.int .i64 1)))))]) (Goes.into [] ⟨rfl, rfl, .refl, trivial⟩) ?_
      refine aw_ret ?_
      obtain rfl := Option.some.inj h
      exact ⟨.inr rfl, _, [], (.tmp rfl .nil), rfl, rfl, rfl, ⟨rfl, rfl, trivial⟩⟩
    · have h := of_false hc3 h
      refine aw_skip ?_
      show AW _ _ _ _ _
      refine aw_seq ?_
      refine aw_seq ?_
      refine aw_region (.cons (.plain rfl (c_move rfl rfl (by decide) .tmp)) ⟨rfl, trivial⟩ rfl <| .cons (.plain rfl (c_move rfl rfl (by decide) .tmp)) ⟨rfl, trivial⟩ rfl <| .cons (.plain rfl (c_lss rfl rfl (by decide) .tmp .tmp)) ⟨rfl, rfl, trivial⟩ rfl <| .nil) ?_
      show AW _ _ _ _ _
      refine aw_cond .tmp ⟨rfl, trivial⟩ (fun hc4 => ?_) (fun hc4 => ?_)
      · have h := of_true hc4 h
        refine aw_seq ?_
        refine aw_region (.cons (.plain rfl (c_assign rfl rfl (by decide) (.const rfl))) trivial rfl <| .nil) ?_
        show AW _ _ _ _ _
        refine aw_goes (σ' := [(.tmp 4, .m (.one (.t (.v (.int .i64 ((-1)))))))]) (Goes.into [] ⟨rfl, rfl, .refl, trivial⟩) ?_
        refine aw_ret ?_
        obtain rfl := Option.some.inj h
        exact ⟨.inr rfl, _, [], (.tmp rfl .nil), rfl, rfl, rfl, ⟨rfl, rfl, trivial⟩⟩
      · have h := of_false hc4 h
        refine aw_skip ?_
        show AW _ _ _ _ _
        refine aw_seq ?_
        refine aw_seq ?_
        refine aw_region (.cons (.plain rfl (c_move rfl rfl (by decide) .tmp)) ⟨rfl, trivial⟩ rfl <| .cons (.plain rfl (c_move rfl rfl (by decide) .tmp)) ⟨rfl, trivial⟩ rfl <| .cons (.plain rfl (c_gtr rfl rfl (by decide) .tmp .tmp)) ⟨rfl, rfl, trivial⟩ rfl <| .nil) ?_
        show AW _ _ _ _ _
        refine aw_cond .tmp ⟨rfl, trivial⟩ (fun hc5 => ?_) (fun hc5 => ?_)
        · have h := of_true hc5 h
          refine aw_seq ?_
          refine aw_region (.cons (.plain rfl (c_assign rfl rfl (by decide) (.const rfl))) trivial rfl <| .nil) ?_
          show AW _ _ _ _ _
          refine aw_goes (σ' := [(.tmp 4, .m (.one (.t (.v (.int .i64 1)))))]) (Goes.into [] ⟨rfl, rfl, .refl, trivial⟩) ?_
          refine aw_ret ?_
          obtain rfl := Option.some.inj h
          exact ⟨.inr rfl, _, [], (.tmp rfl .nil), rfl, rfl, rfl, ⟨rfl, rfl, trivial⟩⟩
        · have h := of_false hc5 h
          refine aw_skip ?_
          show AW _ _ _ _ _
          refine aw_seq ?_
          refine aw_region (.cons (.plain rfl (c_assign rfl rfl (by decide) (.const rfl))) trivial rfl <| .nil) ?_
          show AW _ _ _ _ _
          refine aw_goes (σ' := [(.tmp 4, .m (.one (.t (.v (.int .i64 0)))))]) (Goes.into [] ⟨rfl, rfl, .refl, trivial⟩) ?_
          refine aw_ret ?_
          obtain rfl := Option.some.inj h
          exact ⟨.inr rfl, _, [], (.tmp rfl .nil), rfl, rfl, rfl, ⟨rfl, rfl, trivial⟩⟩

def dist_Near_1 (p0 : Int) (p1 : Int) (c0 : List (Int × Int)) (c1 : Int) (c2 : Int) : Option Int := (dist_Far c0 c1 p0).bind fun v1 => (dist_Far c0 c1 p1).bind fun v2 => (cmp_Compare_int v1 v2).bind fun v3 => (need (c2 ≠ 0)).bind fun v4 => (need (c2 ≠ 0)).bind fun v5 => (cmp_Compare_int ((wi64 (wi64 (p0 - c1) + c2)).tmod c2) ((wi64 (wi64 (p1 - c1) + c2)).tmod c2)).bind fun v6 => (cmp_Or_int [v3, v6]).bind fun v7 => some v7
theorem dist_Near_1_calls (p0 : Int) (p1 : Int) (c0 : List (Int × Int)) (c1 : Int) (c2 : Int) (r : Int) (h : dist_Near_1 p0 p1 c0 c1 c2 = some r) : ACalls Try.prog 76 [.one (.t (.v (.int .i64 p0))), .one (.t (.v (.int .i64 p1))), .one (.tptr [.sl (c0.map e57)] 0), .one (.tptr [.v (.int .i64 c1)] 0), .one (.tptr [.v (.int .i64 c2)] 0)] [] (.one (.t (.v (.int .i64 r)))) [] := by
  unfold dist_Near_1 at h
  refine acalls_of_AW Try.func76 rfl Try.call76 (by decide) (show 5 ≤ 34 by decide) rfl rfl ?_
  refine aw_seq ?_
  refine aw_region (.cons (.plain rfl (c_assign rfl rfl (by decide) (.const rfl))) trivial rfl <| .nil) ?_
  show AW _ _ _ _ _
  refine aw_seq ?_
  obtain ⟨v1, hv1, h⟩ := bind_some h
  obtain ⟨v2, hv2, h⟩ := bind_some h
  obtain ⟨v3, hv3, h⟩ := bind_some h
  obtain ⟨v4, hv4, h⟩ := bind_some h
  obtain ⟨v5, hv5, h⟩ := bind_some h
  obtain ⟨v6, hv6, h⟩ := bind_some h
  obtain ⟨v7, hv7, h⟩ := bind_some h
  refine aw_region_draw mixed (.cons (.plain rfl (c_loadTree rfl rfl (by decide) Try.isAgg22 .tmp rfl)) ⟨rfl, trivial⟩ rfl <| .cons (.plain rfl (c_loadTree rfl rfl (by decide) Try.isAgg3 .tmp rfl)) ⟨rfl, trivial⟩ rfl <| .cons (.plain rfl (c_move rfl rfl (by decide) .tmp)) ⟨rfl, trivial⟩ rfl <| .cons (.plain rfl (c_call (ins := [.one (.t (.sl (c0.map e57))), .one (.t (.v (.int .i64 c1))), .one (.t (.v (.int .i64 p0)))]) (caps := []) rfl rfl rfl (by decide) .clo (dist_Far_calls _ _ _ _ hv1) (.cons .tmp (.cons .tmp (.cons .tmp .nil))) rfl rfl)) ⟨rfl, rfl, rfl, trivial⟩ rfl <| .cons (.plain rfl (c_loadTree rfl rfl (by decide) Try.isAgg22 .tmp rfl)) ⟨rfl, trivial⟩ rfl <| .cons (.plain rfl (c_loadTree rfl rfl (by decide) Try.isAgg3 .tmp rfl)) ⟨rfl, trivial⟩ rfl <| .cons (.plain rfl (c_move rfl rfl (by decide) .tmp)) ⟨rfl, trivial⟩ rfl <| .cons (.plain rfl (c_call (ins := [.one (.t (.sl (c0.map e57))), .one (.t (.v (.int .i64 c1))), .one (.t (.v (.int .i64 p1)))]) (caps := []) rfl rfl rfl (by decide) .clo (dist_Far_calls _ _ _ _ hv2) (.cons .tmp (.cons .tmp (.cons .tmp .nil))) rfl rfl)) ⟨rfl, rfl, rfl, trivial⟩ rfl <| .cons (.plain rfl (c_call (ins := [.one (.t (.v (.int .i64 v1))), .one (.t (.v (.int .i64 v2)))]) (caps := []) rfl rfl rfl (by decide) .clo (cmp_Compare_int_calls _ _ _ hv3) (.cons .tmp (.cons .tmp .nil)) rfl rfl)) ⟨rfl, rfl, trivial⟩ rfl <| .cons (.plain rfl (c_move rfl rfl (by decide) .tmp)) ⟨rfl, trivial⟩ rfl <| .cons (.plain rfl (c_loadTree rfl rfl (by decide) Try.isAgg3 .tmp rfl)) ⟨rfl, trivial⟩ rfl <| .cons (.plain rfl (c_sub rfl rfl (by decide) .tmp .tmp)) ⟨rfl, rfl, trivial⟩ rfl <| .cons (.plain rfl (c_loadTree rfl rfl (by decide) Try.isAgg3 .tmp rfl)) ⟨rfl, trivial⟩ rfl <| .cons (.plain rfl (c_add rfl rfl (by decide) .tmp .tmp)) ⟨rfl, rfl, trivial⟩ rfl <| .cons (.plain rfl (c_loadTree rfl rfl (by decide) Try.isAgg3 .tmp rfl)) ⟨rfl, trivial⟩ rfl <| .cons (.plain rfl (c_rem (need_of hv4) rfl rfl (by decide) .tmp .tmp)) ⟨rfl, rfl, trivial⟩ rfl <| .cons (.plain rfl (c_move rfl rfl (by decide) .tmp)) ⟨rfl, trivial⟩ rfl <| .cons (.plain rfl (c_loadTree rfl rfl (by decide) Try.isAgg3 .tmp rfl)) ⟨rfl, trivial⟩ rfl <| .cons (.plain rfl (c_sub rfl rfl (by decide) .tmp .tmp)) ⟨rfl, rfl, trivial⟩ rfl <| .cons (.plain rfl (c_loadTree rfl rfl (by decide) Try.isAgg3 .tmp rfl)) ⟨rfl, trivial⟩ rfl <| .cons (.plain rfl (c_add rfl rfl (by decide) .tmp .tmp)) ⟨rfl, rfl, trivial⟩ rfl <| .cons (.plain rfl (c_loadTree rfl rfl (by decide) Try.isAgg3 .tmp rfl)) ⟨rfl, trivial⟩ rfl <| .cons (.plain rfl (c_rem (need_of hv5) rfl rfl (by decide) .tmp .tmp)) ⟨rfl, rfl, trivial⟩ rfl <| .cons (.plain rfl (c_call (ins := [.one (.t (.v (.int .i64 ((wi64 (wi64 (p0 - c1) + c2)).tmod c2)))), .one (.t (.v (.int .i64 ((wi64 (wi64 (p1 - c1) + c2)).tmod c2))))]) (caps := []) rfl rfl rfl (by decide) .clo (cmp_Compare_int_calls _ _ _ hv6) (.cons .tmp (.cons .tmp .nil)) rfl rfl)) ⟨rfl, rfl, trivial⟩ rfl <| .cons (.plain rfl (.frozen (by simp) (c_buildSlice (sz := 1) (es := [v3, v6].map e3) rfl rfl (by decide) Try.underlying42 i3 rfl rfl rfl rfl (by decide) (.c1 .tmp (.c1 .tmp .nil)) rfl (emb_len (f := e3) (n := 1) (fun _ => rfl) _) (by decide)))) ⟨rfl, rfl, trivial⟩ rfl <| .cons (.plain rfl (c_call (ins := [.one (.t (.sl ([v3, v6].map e3)))]) (caps := []) rfl rfl rfl (by decide) .clo (cmp_Or_int_calls _ _ hv7) (.cons .tmp .nil) rfl rfl)) ⟨rfl, trivial⟩ rfl <| .cons (.plain rfl (c_assign rfl rfl (by decide) .tmp)) ⟨rfl, trivial⟩ rfl <| .nil) rfl rfl ?_
  show AW _ _ _ _ _
  refine aw_goes (σ' := [(.tmp 7, .m (.one (.t (.v (.int .i64 v7)))))]) (Goes.into [] ⟨rfl, rfl, .refl, trivial⟩) ?_
  refine aw_ret ?_
  obtain rfl := Option.some.inj h
  exact ⟨.inr rfl, _, [], (.tmp rfl .nil), rfl, rfl, rfl, ⟨rfl, rfl, trivial⟩⟩

noncomputable def dist_Near_L1 (p1 : Int) (v2 : List (Int)) (v11 : ((List (Int)) × Int)) : Option (((List (Int)) × Int) ⊕ List (Int)) := bif decide (v11.2 < (v2.length : Int)) then (bif !decide (v11.2 = p1) then (app_ v11.1 [v11.2]).bind fun v14 => some v14 else some v11.1 : Option (List (Int))).bind fun v15 => some (.inl ((v15, wi64 (v11.2 + 1)))) else some (.inr v11.1)
noncomputable def dist_Near (p0 : List (Int × Int)) (p1 : Int) : Option (List (Int)) := (dist_proc p0 p1).bind fun v1 => bif decide (v1 < 0) then some (([] : List (Int))) else (topo_Procs p0).bind fun v2 => (loopO (dist_Near_L1 p1 v2) fuel ((([] : List (Int)), 0))).bind fun v12 => (slices_SortFunc_int v12 ((fun x0 x1 => dist_Near_1 x0 x1 p0 p1 ((v2.length : Int))))).bind fun v16 => some v16
theorem dist_Near_row (p0 : List (Int × Int)) (p1 : Int) (r : List (Int)) (h : dist_Near p0 p1 = some r) : ACalls Try.prog 38 [.one (.t (.sl (p0.map e57))), .one (.t (.v (.int .i64 p1)))] [] (.one (.row 2000000)) [(.row 2000000, .r 3 1 (r.map e3))] := by
  unfold dist_Near at h
  refine acalls_of_AW Try.func38 rfl Try.call38 (by decide) (show 2 ≤ 31 by decide) rfl rfl ?_
  refine aw_seq ?_
  refine aw_region (.cons (.plain rfl (k_box1 rfl rfl (by decide) .tmp rfl)) ⟨rfl, trivial⟩ rfl <| .cons (.plain rfl (k_box1 rfl rfl (by decide) .tmp rfl)) ⟨rfl, trivial⟩ rfl <| .cons (.plain rfl (c_assign rfl rfl (by decide) (.const rfl))) trivial rfl <| .nil) ?_
  show AW _ _ _ _ _
  refine aw_seq ?_
  refine aw_seq ?_
  obtain ⟨v1, hv1, h⟩ := bind_some h
  refine aw_region (.cons (.plain rfl (c_loadCell rfl rfl (by decide) Try.isAgg22 .tmp)) ⟨rfl, rfl, trivial⟩ rfl <| .cons (.plain rfl (c_loadCell rfl rfl (by decide) Try.isAgg3 .tmp)) ⟨rfl, rfl, trivial⟩ rfl <| .cons (.plain rfl (c_call (ins := [.one (.t (.sl (p0.map e57))), .one (.t (.v (.int .i64 p1)))]) (caps := []) rfl rfl rfl (by decide) .clo (dist_proc_calls _ _ _ hv1) (.cons .tmp (.cons .tmp .nil)) rfl rfl)) ⟨rfl, rfl, trivial⟩ rfl <| .cons (.plain rfl (c_lss rfl rfl (by decide) .tmp (.const rfl))) ⟨rfl, trivial⟩ rfl <| .nil) ?_
  show AW _ _ _ _ _
  refine aw_cond .tmp ⟨rfl, trivial⟩ (fun hc1 => ?_) (fun hc1 => ?_)
  · have h := of_true hc1 h
    refine aw_seq ?_
    refine aw_region (.cons (.plain rfl (c_assign rfl rfl (by decide) (.const rfl))) trivial rfl <| .nil) ?_
    show AW _ _ _ _ _
    refine aw_goes (σ' := [(.tmp 4, .m (.one (.row 500001))), (.row 500001, .r 3 1 ((([] : List (Int))).map e3))]) (Goes.trans (Goes.nilRow (t := 4) (n := 500002) 3 1 (by decide) rfl (by decide) rfl) (Goes.into [(500001, 500002)] ⟨rfl, rfl, .refl, .refl, trivial⟩)) ?_
    refine aw_ret ?_
    obtain rfl := Option.some.inj h
    exact ⟨.inr rfl, _, [(2000000, 500001)], (.tmp rfl .nil), rfl, rfl, rfl, ⟨rfl, rfl, .refl, trivial⟩⟩
  · have h := of_false hc1 h
    refine aw_skip ?_
    show AW _ _ _ _ _
    refine aw_seq ?_
    obtain ⟨v2, hv2, h⟩ := bind_some h
    refine aw_region (.cons (.plain rfl (c_loadCell rfl rfl (by decide) Try.isAgg22 .tmp)) ⟨rfl, rfl, trivial⟩ rfl <| .cons (.plain rfl (c_call (ins := [.one (.t (.sl (p0.map e57)))]) (caps := []) rfl rfl rfl (by decide) .clo (topo_Procs_calls _ _ hv2) (.cons .tmp .nil) rfl rfl)) ⟨rfl, trivial⟩ rfl <| .cons (.plain rfl (k_len (i := Try.t3) (l := v2) (f := e3) (fun _ => rfl) (by decide) rfl rfl (by decide) Try.underlying42 (src_tree (f := e3) (fun _ => rfl) (by decide) .tmp))) ⟨rfl, trivial⟩ rfl <| .cons (.plain rfl (c_alloc rfl rfl (by decide) i3 rfl rfl rfl)) trivial rfl <| .cons (.plain rfl (c_store rfl rfl i3 rfl .tmp .tmp)) ⟨rfl, rfl, rfl, trivial⟩ rfl <| .nil) ?_
    show AW _ _ _ _ _
    refine aw_seq ?_
    refine aw_region (.cons (.plain rfl (c_assign rfl rfl (by decide) (.const rfl))) trivial rfl <| .nil) ?_
    show AW _ _ _ _ _
    refine aw_seq ?_
    refine aw_seq ?_
    refine aw_region (.cons (.plain rfl (c_loadCell rfl rfl (by decide) Try.isAgg3 .tmp)) ⟨rfl, rfl, trivial⟩ rfl <| .cons (.plain rfl (c_move rfl rfl (by decide) (.const rfl))) trivial rfl <| .nil) ?_
    show AW _ _ _ _ _
    refine aw_loop0 (fun v11 : ((List (Int)) × Int) => [(.tmp 2, .m (.one (.ptr 2 0))), (.tmp 3, .m (.one (.ptr 3 0))), (.tmp 5, .m (.one (.ptr 5 0))), (.tmp 6, .m (.one (.row 500006))), (.tmp 15, .m (.one (.t (.v (.int .i64 ((v2.length : Int))))))), (.tmp 16, .m (.one (.t (.v (.int .i64 v11.2))))), (.cell 2 0, .c (.t (.sl (p0.map e57)))), (.cell 3 0, .c (.t (.v (.int .i64 p1)))), (.cell 5 0, .c (.t (.v (.int .i64 ((v2.length : Int)))))), (.row 500006, .r 3 1 (v11.1.map e3))]) (fun v12 : List (Int) => [(.tmp 2, .m (.one (.ptr 2 0))), (.tmp 3, .m (.one (.ptr 3 0))), (.tmp 5, .m (.one (.ptr 5 0))), (.tmp 6, .m (.one (.row 500009))), (.cell 2 0, .c (.t (.sl (p0.map e57)))), (.cell 3 0, .c (.t (.v (.int .i64 p1)))), (.cell 5 0, .c (.t (.v (.int .i64 ((v2.length : Int)))))), (.row 500009, .r 3 1 (v12.map e3))]) h (Goes.trans (Goes.nilRow (t := 6) (n := 500012) 3 1 (by decide) rfl (by decide) rfl) (Goes.into [(2, 2), (3, 3), (5, 5), (500006, 500012)] ⟨rfl, rfl, .refl, .refl, .refl, .refl, .refl, .refl, .refl, .refl, .refl, .refl, trivial⟩)) (fun v11 _ h => ?_) (fun v12 h => ?_)
    · unfold dist_Near_L1 at h
      refine aw_seq ?_
      refine aw_region (.cons (.plain rfl (c_lss rfl rfl (by decide) .tmp .tmp)) ⟨rfl, rfl, trivial⟩ rfl <| .nil) ?_
      show AW _ _ _ _ _
      refine aw_seq ?_
      refine aw_cond .tmp ⟨rfl, trivial⟩ (fun hc8 => ?_) (fun hc8 => ?_)
      · have h := of_true hc8 h
        refine aw_skip ?_
        show AW _ _ _ _ _
        refine aw_seq ?_
        refine aw_cut0 (fun v15 : List (Int) => [(.tmp 2, .m (.one (.ptr 2 0))), (.tmp 3, .m (.one (.ptr 3 0))), (.tmp 5, .m (.one (.ptr 5 0))), (.tmp 6, .m (.one (.row 500010))), (.tmp 15, .m (.one (.t (.v (.int .i64 ((v2.length : Int))))))), (.tmp 16, .m (.one (.t (.v (.int .i64 v11.2))))), (.cell 2 0, .c (.t (.sl (p0.map e57)))), (.cell 3 0, .c (.t (.v (.int .i64 p1)))), (.cell 5 0, .c (.t (.v (.int .i64 ((v2.length : Int)))))), (.row 500010, .r 3 1 (v15.map e3))]) h (fun _ h => ?_) (fun v15 h => ?_)
        · refine aw_block ?_
          refine aw_seq ?_
          refine aw_region (.cons (.plain rfl (c_move rfl rfl (by decide) .tmp)) ⟨rfl, trivial⟩ rfl <| .cons (.plain rfl (c_assign rfl rfl (by decide) .tmp)) ⟨rfl, trivial⟩ rfl <| .nil) ?_
          show AW _ _ _ _ _
          refine aw_seq ?_
          refine aw_region (.cons (.plain rfl (c_move rfl rfl (by decide) .tmp)) ⟨rfl, trivial⟩ rfl <| .cons (.plain rfl (c_loadCell rfl rfl (by decide) Try.isAgg3 .tmp)) ⟨rfl, rfl, trivial⟩ rfl <| .cons (.plain rfl (c_neq rfl rfl (by decide) .tmp .tmp)) ⟨rfl, rfl, trivial⟩ rfl <| .nil) ?_
          show AW _ _ _ _ _
          refine aw_cond .tmp ⟨rfl, trivial⟩ (fun hc10 => ?_) (fun hc10 => ?_)
          · have h := of_true hc10 h
            obtain ⟨v14, hv14, h⟩ := bind_some h
            refine aw_region (.cons (.plain rfl (c_move rfl rfl (by decide) .tmp)) ⟨rfl, trivial⟩ rfl <| .cons (.plain rfl (c_move rfl rfl (by decide) .tmp)) ⟨rfl, trivial⟩ rfl <| .cons (.plain rfl (.frozen (by simp) (c_buildSlice (sz := 1) (es := [v11.2].map e3) rfl rfl (by decide) Try.underlying42 i3 rfl rfl rfl rfl (by decide) (.c1 .tmp .nil) rfl (emb_len (f := e3) (n := 1) (fun _ => rfl) _) (by decide)))) ⟨rfl, trivial⟩ rfl <| .cons (.plain rfl (k_appendRow (f := e3) hv14 (by decide) (by decide) rfl rfl (by decide) Try.underlying42 i3 rfl rfl rfl rfl (by decide) .tmp (src_tree (f := e3) (fun _ => rfl) (by decide) .tmp))) ⟨rfl, rfl, rfl, trivial⟩ rfl <| .cons (.plain rfl (c_assign rfl rfl (by decide) .tmp)) ⟨rfl, trivial⟩ rfl <| .nil) ?_
            obtain rfl := Option.some.inj h
            show Goes _ _
            exact (Goes.into [(2, 2), (3, 3), (5, 5), (500010, 25)] ⟨rfl, rfl, .refl, .refl, .refl, .refl, .refl, .refl, .refl, .refl, .refl, .refl, trivial⟩)
          · have h := of_false hc10 h
            refine aw_skip ?_
            obtain rfl := Option.some.inj h
            show Goes _ _
            exact (Goes.into [(2, 2), (3, 3), (5, 5), (500010, 500006)] ⟨rfl, rfl, .refl, .refl, .refl, .refl, .refl, .refl, .refl, .refl, .refl, .refl, trivial⟩)
        · show AW _ _ _ _ _
          refine aw_region (.cons (.plain rfl (c_add rfl rfl (by decide) .tmp (.const rfl))) ⟨rfl, trivial⟩ rfl <| .cons (.plain rfl (c_move rfl rfl (by decide) .tmp)) ⟨rfl, trivial⟩ rfl <| .nil) ?_
          obtain rfl := Option.some.inj h
          exact ⟨_, rfl, (Goes.into [(2, 2), (3, 3), (5, 5), (500006, 500010)] ⟨rfl, rfl, .refl, .refl, .refl, .refl, .refl, .refl, .refl, .refl, .refl, .refl, trivial⟩)⟩
      · have h := of_false hc8 h
        refine aw_exit ?_
        obtain rfl := Option.some.inj h
        exact ⟨rfl, _, rfl, (Goes.into [(2, 2), (3, 3), (5, 5), (500009, 500006)] ⟨rfl, rfl, .refl, .refl, .refl, .refl, .refl, .refl, .refl, .refl, trivial⟩)⟩
    · show AW _ _ _ _ _
      refine aw_seq ?_
      refine aw_goes (Goes.freezeBox (n := 2) (cs := [.sl (p0.map e57)]) ⟨rfl, trivial⟩) ?_
      refine aw_goes (Goes.freezeBox (n := 3) (cs := [.v (.int .i64 p1)]) ⟨rfl, trivial⟩) ?_
      refine aw_goes (Goes.freezeBox (n := 5) (cs := [.v (.int .i64 ((v2.length : Int)))]) ⟨rfl, trivial⟩) ?_
      obtain ⟨v16, hv16, h⟩ := bind_some h
      refine aw_region (.cons (.plain rfl (c_move rfl rfl (by decide) .tmp)) ⟨rfl, trivial⟩ rfl <| .cons (.plain rfl (c_makeClo rfl rfl (by decide) (.cons .tmp (.cons .tmp (.cons .tmp .nil))))) ⟨rfl, rfl, rfl, trivial⟩ rfl <| .cons (.plain rfl (c_callObj (ins := [.one (.row 1000000), .one (.t (.clo 76 [[.sl (p0.map e57)], [.v (.int .i64 p1)], [.v (.int .i64 ((v2.length : Int)))]]))]) (ins' := [.one (.row 500009), .one (.t (.clo 76 [[.sl (p0.map e57)], [.v (.int .i64 p1)], [.v (.int .i64 ((v2.length : Int)))]]))]) (caps := []) (pre := [(.row 1000000, .r 3 1 (v12.map e3))]) (pre' := [(.row 500009, .r 3 1 (v12.map e3))]) (post := [(.row 1000000, .r 3 1 (v16.map e3))]) (post' := [(.row 500009, .r 3 1 (v16.map e3))]) (kl := []) (ps := [(1000000, 500009)]) (qs := [(500009, 1000000)]) (nw := []) (out' := .tup []) rfl rfl rfl (by decide) .clo (slices_SortFunc_int_row _ _ (fun x0 x1 r h => dist_Near_1_calls x0 x1 _ _ _ r h) _ hv16) (.cons .tmp (.cons .tmp .nil)) rfl rfl rfl rfl ⟨.refl, trivial⟩ rfl rfl rfl rfl rfl ⟨.refl, trivial⟩ rfl rfl rfl)) ⟨rfl, rfl, rfl, trivial⟩ rfl <| .nil) ?_
      show AW _ _ _ _ _
      refine aw_seq ?_
      refine aw_region (.cons (.plain rfl (c_move rfl rfl (by decide) .tmp)) ⟨rfl, trivial⟩ rfl <| .cons (.plain rfl (c_assign rfl rfl (by decide) .tmp)) ⟨rfl, trivial⟩ rfl <| .nil) ?_
      show AW _ _ _ _ _
      refine aw_goes (σ' := [(.tmp 4, .m (.one (.row 500011))), (.row 500011, .r 3 1 (v16.map e3))]) (Goes.into [(500011, 500009)] ⟨rfl, rfl, .refl, .refl, trivial⟩) ?_
      refine aw_ret ?_
      obtain rfl := Option.some.inj h
      exact ⟨.inr rfl, _, [(2000000, 500011)], (.tmp rfl .nil), rfl, rfl, rfl, ⟨rfl, rfl, .refl, trivial⟩⟩
def steal_Victims_1 (p0 : Int) (c0_0 : List (Int × Int)) (c0_1 : Int) (c0_2 : List (Int × (List (Int)))) (c0_3 : List ((List (Int)))) (c0_4 : Int) (c1 : Int) (c2 : Int) : Option Bool := ((at_ c0_2 p0).bind fun v4 => (ring_All v4.1 v4.2).bind fun v5 => bif decide ((v5.length : Int) = 0) then some true else (dist_Far c0_0 c1 p0).bind fun v6 => some (decide ((if 3 < c2 then 3 else c2) < v6)) : Option Bool).bind fun v7 => some v7
theorem steal_Victims_1_calls (p0 : Int) (c0_0 : List (Int × Int)) (c0_1 : Int) (c0_2 : List (Int × (List (Int)))) (c0_3 : List ((List (Int)))) (c0_4 : Int) (c1 : Int) (c2 : Int) (r : Bool) (h : steal_Victims_1 p0 c0_0 c0_1 c0_2 c0_3 c0_4 c1 c2 = some r) : ACalls Try.prog 39 [.one (.t (.v (.int .i64 p0))), .one (.tptr [.sl (c0_0.map e57), .v (.int .i64 c0_1), .sl (c0_2.map e51), .sl (c0_3.map e42), .v (.int .u64 c0_4)] 0), .one (.tptr [.v (.int .i64 c1)] 0), .one (.tptr [.v (.int .i64 c2)] 0)] [] (.one (.t (.v (.bool r)))) [] := by
  unfold steal_Victims_1 at h
  refine acalls_of_AW Try.func39 rfl Try.call39 (by decide) (show 4 ≤ 24 by decide) rfl rfl ?_
  refine aw_seq ?_
  refine aw_region (.cons (.plain rfl (c_assign rfl rfl (by decide) (.const rfl))) trivial rfl <| .nil) ?_
  show AW _ _ _ _ _
  refine aw_seq ?_
  refine aw_cut0 (fun v7 : Bool => [(.tmp 5, .m (.one (.t (.v (.bool v7)))))]) h (fun _ h => ?_) (fun v7 h => ?_)
  · obtain ⟨v4, hv4, h⟩ := bind_some h
    obtain ⟨v5, hv5, h⟩ := bind_some h
    cases hc2 : decide ((v5.length : Int) = 0) with
    | true =>
      have h := of_true hc2 h
      refine aw_region_draw mixed (.cons (.plain rfl (k_fieldT 30 2 rfl rfl (by decide) Try.underlying33 rfl i30 (by decide) .tmp)) ⟨rfl, trivial⟩ rfl <| .cons (.plain rfl (c_loadTree rfl rfl (by decide) Try.isAgg30 .tmp rfl)) ⟨rfl, trivial⟩ rfl <| .cons (.plain rfl (c_move rfl rfl (by decide) .tmp)) ⟨rfl, trivial⟩ rfl <| .cons (.plain rfl (k_index (f := e51) (i := Try.t51) hv4 rfl rfl rfl (by decide) Try.underlying30 i51 .tmp .tmp)) ⟨rfl, rfl, trivial⟩ rfl <| .cons (.plain rfl (c_loadTrees (cs := [.v (.int .i64 v4.1), .sl (v4.2.map e3)]) rfl rfl (by decide) Try.isAgg51 i51 rfl (show 0 + 2 ≤ 2 by decide) .tmp)) ⟨rfl, trivial⟩ rfl <| .cons (.plain rfl (c_call (ins := [.agg [.t (.v (.int .i64 v4.1)), .t (.sl (v4.2.map e3))]]) (caps := []) rfl rfl rfl (by decide) .clo (ring_All_calls _ _ _ hv5) (.cons .tmp .nil) rfl rfl)) ⟨rfl, trivial⟩ rfl <| .cons (.plain rfl (k_len (i := Try.t3) (l := v5) (f := e3) (fun _ => rfl) (by decide) rfl rfl (by decide) Try.underlying42 (src_tree (f := e3) (fun _ => rfl) (by decide) .tmp))) ⟨rfl, trivial⟩ rfl <| .cons (.plain rfl (c_eql rfl rfl (by decide) .tmp (.const rfl))) ⟨rfl, trivial⟩ rfl <| .cons (.plain rfl (c_move rfl rfl (by decide) .tmp)) ⟨rfl, trivial⟩ rfl <| .cons (.off (b' := true) rfl rfl rfl rfl (by decide)) ⟨(congrArg mB hc2), trivial⟩ rfl <| .cons (.off (b' := true) rfl rfl rfl rfl (by decide)) ⟨(congrArg mB hc2), trivial⟩ rfl <| .cons (.off (b' := true) rfl rfl rfl rfl (by decide)) ⟨(congrArg mB hc2), trivial⟩ rfl <| .cons (.off (b' := true) rfl rfl rfl rfl (by decide)) ⟨(congrArg mB hc2), trivial⟩ rfl <| .cons (.off (b' := true) rfl rfl rfl rfl (by decide)) ⟨(congrArg mB hc2), trivial⟩ rfl <| .cons (.off (b' := true) rfl rfl rfl rfl (by decide)) ⟨(congrArg mB hc2), trivial⟩ rfl <| .cons (.off (b' := true) rfl rfl rfl rfl (by decide)) ⟨(congrArg mB hc2), trivial⟩ rfl <| .cons (.off (b' := true) rfl rfl rfl rfl (by decide)) ⟨(congrArg mB hc2), trivial⟩ rfl <| .cons (.plain rfl (c_pick (b := true) rfl rfl (by decide) .tmp rfl (.const rfl))) ⟨(congrArg mB hc2), trivial⟩ rfl <| .cons (.plain rfl (c_assign rfl rfl (by decide) .tmp)) ⟨rfl, trivial⟩ rfl <| .nil) rfl rfl ?_
      obtain rfl := Option.some.inj h
      show Goes _ _
      exact (Goes.into [] ⟨rfl, rfl, .refl, trivial⟩)
    | false =>
      have h := of_false hc2 h
      obtain ⟨v6, hv6, h⟩ := bind_some h
      refine aw_region_draw mixed (.cons (.plain rfl (k_fieldT 30 2 rfl rfl (by decide) Try.underlying33 rfl i30 (by decide) .tmp)) ⟨rfl, trivial⟩ rfl <| .cons (.plain rfl (c_loadTree rfl rfl (by decide) Try.isAgg30 .tmp rfl)) ⟨rfl, trivial⟩ rfl <| .cons (.plain rfl (c_move rfl rfl (by decide) .tmp)) ⟨rfl, trivial⟩ rfl <| .cons (.plain rfl (k_index (f := e51) (i := Try.t51) hv4 rfl rfl rfl (by decide) Try.underlying30 i51 .tmp .tmp)) ⟨rfl, rfl, trivial⟩ rfl <| .cons (.plain rfl (c_loadTrees (cs := [.v (.int .i64 v4.1), .sl (v4.2.map e3)]) rfl rfl (by decide) Try.isAgg51 i51 rfl (show 0 + 2 ≤ 2 by decide) .tmp)) ⟨rfl, trivial⟩ rfl <| .cons (.plain rfl (c_call (ins := [.agg [.t (.v (.int .i64 v4.1)), .t (.sl (v4.2.map e3))]]) (caps := []) rfl rfl rfl (by decide) .clo (ring_All_calls _ _ _ hv5) (.cons .tmp .nil) rfl rfl)) ⟨rfl, trivial⟩ rfl <| .cons (.plain rfl (k_len (i := Try.t3) (l := v5) (f := e3) (fun _ => rfl) (by decide) rfl rfl (by decide) Try.underlying42 (src_tree (f := e3) (fun _ => rfl) (by decide) .tmp))) ⟨rfl, trivial⟩ rfl <| .cons (.plain rfl (c_eql rfl rfl (by decide) .tmp (.const rfl))) ⟨rfl, trivial⟩ rfl <| .cons (.plain rfl (c_move rfl rfl (by decide) .tmp)) ⟨rfl, trivial⟩ rfl <| .cons (.on (t := 14) rfl rfl (k_fieldT 22 0 rfl rfl (by decide) Try.underlying33 rfl i22 (by decide) .tmp)) ⟨(congrArg mB hc2), rfl, trivial⟩ rfl <| .cons (.on (t := 14) rfl rfl (c_loadTree rfl rfl (by decide) Try.isAgg22 .tmp rfl)) ⟨(congrArg mB hc2), rfl, trivial⟩ rfl <| .cons (.on (t := 14) rfl rfl (c_loadTree rfl rfl (by decide) Try.isAgg3 .tmp rfl)) ⟨(congrArg mB hc2), rfl, trivial⟩ rfl <| .cons (.on (t := 14) rfl rfl (c_move rfl rfl (by decide) .tmp)) ⟨(congrArg mB hc2), rfl, trivial⟩ rfl <| .cons (.on (t := 14) rfl rfl (c_call (ins := [.one (.t (.sl (c0_0.map e57))), .one (.t (.v (.int .i64 c1))), .one (.t (.v (.int .i64 p0)))]) (caps := []) rfl rfl rfl (by decide) .clo (dist_Far_calls _ _ _ _ hv6) (.cons .tmp (.cons .tmp (.cons .tmp .nil))) rfl rfl)) ⟨(congrArg mB hc2), rfl, rfl, rfl, trivial⟩ rfl <| .cons (.on (t := 14) rfl rfl (c_loadTree rfl rfl (by decide) Try.isAgg3 .tmp rfl)) ⟨(congrArg mB hc2), rfl, trivial⟩ rfl <| .cons (.on (t := 14) rfl rfl (c_min rfl rfl (by decide) .tmp (.const rfl))) ⟨(congrArg mB hc2), rfl, trivial⟩ rfl <| .cons (.on (t := 14) rfl rfl (c_gtr rfl rfl (by decide) .tmp .tmp)) ⟨(congrArg mB hc2), rfl, rfl, trivial⟩ rfl <| .cons (.plain rfl (c_pick (b := false) rfl rfl (by decide) .tmp rfl .tmp)) ⟨(congrArg mB hc2), rfl, trivial⟩ rfl <| .cons (.plain rfl (c_assign rfl rfl (by decide) .tmp)) ⟨rfl, trivial⟩ rfl <| .nil) rfl rfl ?_
      obtain rfl := Option.some.inj h
      show Goes _ _
      exact (Goes.into [] ⟨rfl, rfl, .refl, trivial⟩)
  · show AW _ _ _ _ _
    refine aw_goes (σ' := [(.tmp 5, .m (.one (.t (.v (.bool v7)))))]) (Goes.into [] ⟨rfl, rfl, .refl, trivial⟩) ?_
    refine aw_ret ?_
    obtain rfl := Option.some.inj h
    exact ⟨.inr rfl, _, [], (.tmp rfl .nil), rfl, rfl, rfl, ⟨rfl, rfl, trivial⟩⟩

noncomputable def steal_Victims (p0_0 : List (Int × Int)) (p0_1 : Int) (p0_2 : List (Int × (List (Int)))) (p0_3 : List ((List (Int)))) (p0_4 : Int) (p1 : Int) (p2 : Int) : Option (List (Int)) := (runs_May p0_0 p0_1 p0_2 p0_3 p0_4).bind fun v1 => bif !v1 then some (([] : List (Int))) else (dist_Near p0_0 p1).bind fun v2 => (slices_DeleteFunc_int v2 ((fun x0 => steal_Victims_1 x0 p0_0 p0_1 p0_2 p0_3 p0_4 p1 p2))).bind fun v3 => some v3
theorem steal_Victims_calls (p0_0 : List (Int × Int)) (p0_1 : Int) (p0_2 : List (Int × (List (Int)))) (p0_3 : List ((List (Int)))) (p0_4 : Int) (p1 : Int) (p2 : Int) (r : List (Int)) (h : steal_Victims p0_0 p0_1 p0_2 p0_3 p0_4 p1 p2 = some r) : ACalls Try.prog 17 [.agg [.t (.sl (p0_0.map e57)), .t (.v (.int .i64 p0_1)), .t (.sl (p0_2.map e51)), .t (.sl (p0_3.map e42)), .t (.v (.int .u64 p0_4))], .one (.t (.v (.int .i64 p1))), .one (.t (.v (.int .i64 p2)))] [] (.one (.t (.sl (r.map e3)))) [] := by
  unfold steal_Victims at h
  refine acalls_of_AW Try.func17 rfl Try.call17 (by decide) (show 3 ≤ 16 by decide) rfl rfl ?_
  refine aw_seq ?_
  refine aw_region (.cons (.plain rfl (k_boxN rfl rfl (by decide) .tmp rfl)) ⟨rfl, trivial⟩ rfl <| .cons (.plain rfl (k_box1 rfl rfl (by decide) .tmp rfl)) ⟨rfl, trivial⟩ rfl <| .cons (.plain rfl (k_box1 rfl rfl (by decide) .tmp rfl)) ⟨rfl, trivial⟩ rfl <| .cons (.plain rfl (c_assign rfl rfl (by decide) .nilT)) trivial rfl <| .nil) ?_
  show AW _ _ _ _ _
  refine aw_seq ?_
  refine aw_seq ?_
  obtain ⟨v1, hv1, h⟩ := bind_some h
  refine aw_region (.cons (.plain rfl (c_loadBox (cs := [.t (.sl (p0_0.map e57)), .t (.v (.int .i64 p0_1)), .t (.sl (p0_2.map e51)), .t (.sl (p0_3.map e42)), .t (.v (.int .u64 p0_4))]) rfl rfl (by decide) Try.isAgg33 i33 rfl .tmp)) ⟨rfl, rfl, rfl, rfl, rfl, rfl, trivial⟩ rfl <| .cons (.plain rfl (c_call (ins := [.agg [.t (.sl (p0_0.map e57)), .t (.v (.int .i64 p0_1)), .t (.sl (p0_2.map e51)), .t (.sl (p0_3.map e42)), .t (.v (.int .u64 p0_4))]]) (caps := []) rfl rfl rfl (by decide) .clo (runs_May_calls _ _ _ _ _ _ hv1) (.cons .tmp .nil) rfl rfl)) ⟨rfl, trivial⟩ rfl <| .cons (.plain rfl (c_not rfl rfl (by decide) .tmp)) ⟨rfl, trivial⟩ rfl <| .nil) ?_
  show AW _ _ _ _ _
  refine aw_cond .tmp ⟨rfl, trivial⟩ (fun hc1 => ?_) (fun hc1 => ?_)
  · have h := of_true hc1 h
    refine aw_seq ?_
    refine aw_region (.cons (.plain rfl (c_assign rfl rfl (by decide) .nilT)) trivial rfl <| .nil) ?_
    show AW _ _ _ _ _
    refine aw_goes (σ' := [(.tmp 6, .m (.one (.t (.sl ((([] : List (Int))).map e3)))))]) (Goes.into [] ⟨rfl, rfl, .refl, trivial⟩) ?_
    refine aw_ret ?_
    obtain rfl := Option.some.inj h
    exact ⟨.inr rfl, _, [], (.tmp rfl .nil), rfl, rfl, rfl, ⟨rfl, rfl, trivial⟩⟩
  · have h := of_false hc1 h
    refine aw_skip ?_
    show AW _ _ _ _ _
    refine aw_seq ?_
    refine aw_goes (Goes.freezeBox (n := 3) (cs := [.sl (p0_0.map e57), .v (.int .i64 p0_1), .sl (p0_2.map e51), .sl (p0_3.map e42), .v (.int .u64 p0_4)]) ⟨rfl, rfl, rfl, rfl, rfl, trivial⟩) ?_
    refine aw_goes (Goes.freezeBox (n := 4) (cs := [.v (.int .i64 p1)]) ⟨rfl, trivial⟩) ?_
    refine aw_goes (Goes.freezeBox (n := 5) (cs := [.v (.int .i64 p2)]) ⟨rfl, trivial⟩) ?_
    obtain ⟨v2, hv2, h⟩ := bind_some h
    obtain ⟨v3, hv3, h⟩ := bind_some h
    refine aw_region (.cons (.plain rfl (k_fieldT 22 0 rfl rfl (by decide) Try.underlying33 rfl i22 (by decide) .tmp)) ⟨rfl, trivial⟩ rfl <| .cons (.plain rfl (c_loadTree rfl rfl (by decide) Try.isAgg22 .tmp rfl)) ⟨rfl, trivial⟩ rfl <| .cons (.plain rfl (c_loadTree rfl rfl (by decide) Try.isAgg3 .tmp rfl)) ⟨rfl, trivial⟩ rfl <| .cons (.plain rfl (c_callNew (out' := .one (.row 13)) (post' := [(.row 13, .r 3 1 (v2.map e3))]) (qs := [(13, 2000000)]) (nw := [13]) rfl rfl rfl (by decide) (dist_Near_row _ _ _ hv2) (.cons .tmp (.cons .tmp .nil)) rfl rfl rfl rfl rfl ⟨.refl, trivial⟩ rfl rfl rfl)) ⟨rfl, rfl, trivial⟩ rfl <| .cons (.plain rfl (c_makeClo rfl rfl (by decide) (.cons .tmp (.cons .tmp (.cons .tmp .nil))))) ⟨rfl, rfl, rfl, trivial⟩ rfl <| .cons (.plain rfl (c_callObj (ins := [.one (.row 1000000), .one (.t (.clo 39 [[.sl (p0_0.map e57), .v (.int .i64 p0_1), .sl (p0_2.map e51), .sl (p0_3.map e42), .v (.int .u64 p0_4)], [.v (.int .i64 p1)], [.v (.int .i64 p2)]]))]) (ins' := [.one (.row 13), .one (.t (.clo 39 [[.sl (p0_0.map e57), .v (.int .i64 p0_1), .sl (p0_2.map e51), .sl (p0_3.map e42), .v (.int .u64 p0_4)], [.v (.int .i64 p1)], [.v (.int .i64 p2)]]))]) (caps := []) (pre := [(.row 1000000, .r 3 1 (v2.map e3))]) (pre' := [(.row 13, .r 3 1 (v2.map e3))]) (post := [(.row 2000000, .r 3 1 (v3.map e3))]) (post' := [(.row 15, .r 3 1 (v3.map e3))]) (kl := [.row 13]) (ps := [(1000000, 13)]) (qs := [(15, 2000000)]) (nw := [15]) (out' := .one (.row 15)) rfl rfl rfl (by decide) .clo (slices_DeleteFunc_int_row _ _ (fun x0 r h => steal_Victims_1_calls x0 _ _ _ _ _ _ _ r h) _ hv3) (.cons .tmp (.cons .tmp .nil)) rfl rfl rfl rfl ⟨.refl, trivial⟩ rfl rfl rfl rfl rfl ⟨.refl, trivial⟩ rfl rfl rfl)) ⟨rfl, rfl, rfl, trivial⟩ rfl <| .cons (.plain rfl (c_assign rfl rfl (by decide) .tmp)) ⟨rfl, trivial⟩ rfl <| .nil) ?_
    show AW _ _ _ _ _
    refine aw_goes (σ' := [(.tmp 6, .m (.one (.t (.sl (v3.map e3)))))]) (Goes.trans (Goes.freezeRow (n := 15) rfl) (Goes.into [] ⟨rfl, rfl, .refl, trivial⟩)) ?_
    refine aw_ret ?_
    obtain rfl := Option.some.inj h
    exact ⟨.inr rfl, _, [], (.tmp rfl .nil), rfl, rfl, rfl, ⟨rfl, rfl, trivial⟩⟩

def dist_Node (p0 : List (Int × Int)) (p1 : Int) : Option Int := (dist_proc p0 p1).bind fun v1 => bif decide (v1 < 0) then some ((-1)) else (topo_Nodes p0).bind fun v2 => (topo_Up p0 v1 1).bind fun v3 => (slices_Index_int v2 v3).bind fun v4 => some v4
theorem dist_Node_calls (p0 : List (Int × Int)) (p1 : Int) (r : Int) (h : dist_Node p0 p1 = some r) : ACalls Try.prog 59 [.one (.t (.sl (p0.map e57))), .one (.t (.v (.int .i64 p1)))] [] (.one (.t (.v (.int .i64 r)))) [] := by
  unfold dist_Node at h
  refine acalls_of_AW Try.func59 rfl Try.call59 (by decide) (show 2 ≤ 17 by decide) rfl rfl ?_
  refine aw_seq ?_
  refine aw_region (.cons (.plain rfl (c_assign rfl rfl (by decide) (.const rfl))) trivial rfl <| .nil) ?_
  show AW _ _ _ _ _
  refine aw_seq ?_
  obtain ⟨v1, hv1, h⟩ := bind_some h
  refine aw_region (.cons (.plain rfl (c_move rfl rfl (by decide) .tmp)) ⟨rfl, trivial⟩ rfl <| .cons (.plain rfl (c_move rfl rfl (by decide) .tmp)) ⟨rfl, trivial⟩ rfl <| .cons (.plain rfl (c_call (ins := [.one (.t (.sl (p0.map e57))), .one (.t (.v (.int .i64 p1)))]) (caps := []) rfl rfl rfl (by decide) .clo (dist_proc_calls _ _ _ hv1) (.cons .tmp (.cons .tmp .nil)) rfl rfl)) ⟨rfl, rfl, trivial⟩ rfl <| .cons (.plain rfl (c_assign rfl rfl (by decide) .tmp)) ⟨rfl, trivial⟩ rfl <| .nil) ?_
  show AW _ _ _ _ _
  refine aw_seq ?_
  refine aw_seq ?_
  refine aw_region (.cons (.plain rfl (c_move rfl rfl (by decide) .tmp)) ⟨rfl, trivial⟩ rfl <| .cons (.plain rfl (c_lss rfl rfl (by decide) .tmp (.const rfl))) ⟨rfl, trivial⟩ rfl <| .nil) ?_
  show AW _ _ _ _ _
  refine aw_cond .tmp ⟨rfl, trivial⟩ (fun hc1 => ?_) (fun hc1 => ?_)
  · have h := of_true hc1 h
    refine aw_seq ?_
    refine aw_region (.cons (.plain rfl (c_assign rfl rfl (by decide) (.const rfl))) trivial rfl <| .nil) ?_
    show AW _ _ _ _ _
    refine aw_goes (σ' := [(.tmp 4, .m (.one (.t (.v (.int .i64 ((-1)))))))]) (Goes.into [] ⟨rfl, rfl, .refl, trivial⟩) ?_
    refine aw_ret ?_
    obtain rfl := Option.some.inj h
    exact ⟨.inr rfl, _, [], (.tmp rfl .nil), rfl, rfl, rfl, ⟨rfl, rfl, trivial⟩⟩
  · have h := of_false hc1 h
    refine aw_skip ?_
    show AW _ _ _ _ _
    refine aw_seq ?_
    obtain ⟨v2, hv2, h⟩ := bind_some h
    obtain ⟨v3, hv3, h⟩ := bind_some h
    obtain ⟨v4, hv4, h⟩ := bind_some h
    refine aw_region (.cons (.plain rfl (c_move rfl rfl (by decide) .tmp)) ⟨rfl, trivial⟩ rfl <| .cons (.plain rfl (c_call (ins := [.one (.t (.sl (p0.map e57)))]) (caps := []) rfl rfl rfl (by decide) .clo (topo_Nodes_calls _ _ hv2) (.cons .tmp .nil) rfl rfl)) ⟨rfl, trivial⟩ rfl <| .cons (.plain rfl (c_move rfl rfl (by decide) .tmp)) ⟨rfl, trivial⟩ rfl <| .cons (.plain rfl (c_move rfl rfl (by decide) .tmp)) ⟨rfl, trivial⟩ rfl <| .cons (.plain rfl (c_call (ins := [.one (.t (.sl (p0.map e57))), .one (.t (.v (.int .i64 v1))), .one (.t (.v (.int .i64 1)))]) (caps := []) rfl rfl rfl (by decide) .clo (topo_Up_calls _ _ _ _ hv3) (.cons .tmp (.cons .tmp (.cons (.const rfl) .nil))) rfl rfl)) ⟨rfl, rfl, trivial⟩ rfl <| .cons (.plain rfl (c_call (ins := [.one (.t (.sl (v2.map e3))), .one (.t (.v (.int .i64 v3)))]) (caps := []) rfl rfl rfl (by decide) .clo (slices_Index_int_calls _ _ _ hv4) (.cons .tmp (.cons .tmp .nil)) rfl rfl)) ⟨rfl, rfl, trivial⟩ rfl <| .cons (.plain rfl (c_assign rfl rfl (by decide) .tmp)) ⟨rfl, trivial⟩ rfl <| .nil) ?_
    show AW _ _ _ _ _
    refine aw_goes (σ' := [(.tmp 4, .m (.one (.t (.v (.int .i64 v4)))))]) (Goes.into [] ⟨rfl, rfl, .refl, trivial⟩) ?_
    refine aw_ret ?_
    obtain rfl := Option.some.inj h
    exact ⟨.inr rfl, _, [], (.tmp rfl .nil), rfl, rfl, rfl, ⟨rfl, rfl, trivial⟩⟩

def slices_Clone_ring_Ring (p0 : List (Int × (List (Int)))) : Option (List (Int × (List (Int)))) := app_ [] p0
theorem slices_Clone_ring_Ring_row (p0 : List (Int × (List (Int)))) (r : List (Int × (List (Int)))) (h : slices_Clone_ring_Ring p0 = some r) : ACalls Try.prog 67 [.one (.t (.sl (p0.map e51)))] [] (.one (.row 2000000)) [(.row 2000000, .r 51 2 (r.map e51))] := by
  unfold slices_Clone_ring_Ring at h
  refine acalls_of_AW Try.func67 rfl Try.call67 (by decide) (show 1 ≤ 8 by decide) rfl rfl ?_
  refine aw_seq ?_
  refine aw_region (.cons (.plain rfl (c_assign rfl rfl (by decide) (.const rfl))) trivial rfl <| .nil) ?_
  show AW _ _ _ _ _
  refine aw_seq ?_
  refine aw_seq ?_
  refine aw_region_nil (.cons (.plain rfl (c_move rfl rfl (by decide) .tmp)) ⟨rfl, trivial⟩ rfl <| .nil) rfl rfl rfl rfl (by decide) Try.underlying30 (.tree .tmp) ⟨rfl, trivial⟩ (fun b hb => ?_)
  show AW _ _ _ _ _
  refine aw_cond .tmp ⟨rfl, trivial⟩ (fun hc => ?_) (fun hc => ?_)
  · obtain rfl : p0 = [] := List.map_eq_nil_iff.1 (hb hc)
    obtain rfl : [] = r := by simpa [app_] using h
    refine aw_seq ?_
    refine aw_region (.cons (.plain rfl (c_assign rfl rfl (by decide) (.const rfl))) trivial rfl <| .nil) ?_
    show AW _ _ _ _ _
    refine aw_goes (σ' := [(.tmp 2, .m (.one (.row 7))), (.row 7, .r 51 2 [])]) (Goes.trans (Goes.nilRow (t := 2) (n := 7) 51 2 (by decide) rfl (by decide) rfl) (Goes.into [(7, 7)] ⟨rfl, rfl, .refl, .refl, trivial⟩)) ?_
    refine aw_ret ?_
    exact ⟨.inr rfl, _, [(2000000, 7)], (.tmp rfl .nil), rfl, rfl, rfl, ⟨rfl, rfl, .refl, trivial⟩⟩
  · refine aw_skip ?_
    show AW _ _ _ _ _
    refine aw_seq ?_
    refine aw_region (.cons (.plain rfl (c_buildSlice (sz := 2) (es := ([] : List (Int × (List (Int)))).map e51) rfl rfl (by decide) Try.underlying30 i51 rfl rfl rfl rfl (by decide) .nil rfl (emb_len (f := e51) (n := 2) (fun _ => rfl) _) (by decide))) trivial rfl <| .cons (.plain rfl (c_move rfl rfl (by decide) .tmp)) ⟨rfl, trivial⟩ rfl <| .cons (.plain rfl (k_appendRow (f := e51) h (by decide) (by decide) rfl rfl (by decide) Try.underlying30 i51 rfl rfl rfl rfl (by decide) .tmp (src_tree (f := e51) (fun _ => rfl) (by decide) .tmp))) ⟨rfl, rfl, rfl, trivial⟩ rfl <| .cons (.plain rfl (c_assign rfl rfl (by decide) .tmp)) ⟨rfl, trivial⟩ rfl <| .nil) ?_
    show AW _ _ _ _ _
    refine aw_ret ?_
    exact ⟨.inr rfl, _, [(2000000, 7)], (.tmp rfl .nil), rfl, rfl, rfl, ⟨rfl, rfl, .refl, trivial⟩⟩
def slices_Clone_int (p0 : List (Int)) : Option (List (Int)) := app_ [] p0
theorem slices_Clone_int_row (p0 : List (Int)) (r : List (Int)) (h : slices_Clone_int p0 = some r) : ACalls Try.prog 70 [.one (.t (.sl (p0.map e3)))] [] (.one (.row 2000000)) [(.row 2000000, .r 3 1 (r.map e3))] := by
  unfold slices_Clone_int at h
  refine acalls_of_AW Try.func70 rfl Try.call70 (by decide) (show 1 ≤ 8 by decide) rfl rfl ?_
  refine aw_seq ?_
  refine aw_region (.cons (.plain rfl (c_assign rfl rfl (by decide) (.const rfl))) trivial rfl <| .nil) ?_
  show AW _ _ _ _ _
  refine aw_seq ?_
  refine aw_seq ?_
  refine aw_region_nil (.cons (.plain rfl (c_move rfl rfl (by decide) .tmp)) ⟨rfl, trivial⟩ rfl <| .nil) rfl rfl rfl rfl (by decide) Try.underlying42 (.tree .tmp) ⟨rfl, trivial⟩ (fun b hb => ?_)
  show AW _ _ _ _ _
  refine aw_cond .tmp ⟨rfl, trivial⟩ (fun hc => ?_) (fun hc => ?_)
  · obtain rfl : p0 = [] := List.map_eq_nil_iff.1 (hb hc)
    obtain rfl : [] = r := by simpa [app_] using h
    refine aw_seq ?_
    refine aw_region (.cons (.plain rfl (c_assign rfl rfl (by decide) (.const rfl))) trivial rfl <| .nil) ?_
    show AW _ _ _ _ _
    refine aw_goes (σ' := [(.tmp 2, .m (.one (.row 7))), (.row 7, .r 3 1 [])]) (Goes.trans (Goes.nilRow (t := 2) (n := 7) 3 1 (by decide) rfl (by decide) rfl) (Goes.into [(7, 7)] ⟨rfl, rfl, .refl, .refl, trivial⟩)) ?_
    refine aw_ret ?_
    exact ⟨.inr rfl, _, [(2000000, 7)], (.tmp rfl .nil), rfl, rfl, rfl, ⟨rfl, rfl, .refl, trivial⟩⟩
  · refine aw_skip ?_
    show AW _ _ _ _ _
    refine aw_seq ?_
    refine aw_region (.cons (.plain rfl (c_buildSlice (sz := 1) (es := ([] : List (Int)).map e3) rfl rfl (by decide) Try.underlying42 i3 rfl rfl rfl rfl (by decide) .nil rfl (emb_len (f := e3) (n := 1) (fun _ => rfl) _) (by decide))) trivial rfl <| .cons (.plain rfl (c_move rfl rfl (by decide) .tmp)) ⟨rfl, trivial⟩ rfl <| .cons (.plain rfl (k_appendRow (f := e3) h (by decide) (by decide) rfl rfl (by decide) Try.underlying42 i3 rfl rfl rfl rfl (by decide) .tmp (src_tree (f := e3) (fun _ => rfl) (by decide) .tmp))) ⟨rfl, rfl, rfl, trivial⟩ rfl <| .cons (.plain rfl (c_assign rfl rfl (by decide) .tmp)) ⟨rfl, trivial⟩ rfl <| .nil) ?_
    show AW _ _ _ _ _
    refine aw_ret ?_
    exact ⟨.inr rfl, _, [(2000000, 7)], (.tmp rfl .nil), rfl, rfl, rfl, ⟨rfl, rfl, .refl, trivial⟩⟩
theorem slices_Clone_int_calls (p0 : List (Int)) (r : List (Int)) (h : slices_Clone_int p0 = some r) : ACalls Try.prog 70 [.one (.t (.sl (p0.map e3)))] [] (.one (.t (.sl (r.map e3)))) [] := (slices_Clone_int_row p0 r h).frozen

def ring_Take (p0_0 : Int) (p0_1 : List (Int)) : Option ((Int × (List (Int)) × Int)) := (bif !decide (p0_0 = 0) then (slices_Clone_int p0_1).bind fun v5 => some ((p0_0, 0, v5)) else bif decide (0 < (p0_1.length : Int)) then (at_ p0_1 0).bind fun v6 => (drop_ p0_1 1).bind fun v7 => (slices_Clone_int v7).bind fun v8 => some ((v6, p0_0, v8)) else some ((p0_0, p0_0, p0_1)) : Option ((Int × Int × (List (Int))))).bind fun v9 => some ((v9.2.1, v9.2.2, v9.1))
theorem ring_Take_calls (p0_0 : Int) (p0_1 : List (Int)) (r : (Int × (List (Int)) × Int)) (h : ring_Take p0_0 p0_1 = some r) : ACalls Try.prog 86 [.agg [.t (.v (.int .i64 p0_0)), .t (.sl (p0_1.map e3))]] [] (.tup [(true, [.t (.v (.int .i64 r.1)), .t (.sl (r.2.1.map e3))]), (false, [.t (.v (.int .i64 r.2.2))])]) [] := by
  unfold ring_Take at h
  refine acalls_of_AW Try.func86 rfl Try.call86 (by decide) (show 1 ≤ 31 by decide) rfl rfl ?_
  refine aw_seq ?_
  refine aw_region (.cons (.plain rfl (k_boxN rfl rfl (by decide) .tmp rfl)) ⟨rfl, trivial⟩ rfl <| .cons (.plain rfl (c_alloc rfl rfl (by decide) i51 rfl rfl rfl)) trivial rfl <| .cons (.plain rfl (c_assign rfl rfl (by decide) (.const rfl))) trivial rfl <| .nil) ?_
  show AW _ _ _ _ _
  refine aw_seq ?_
  refine aw_region (.cons (.plain rfl (k_fieldP 3 0 rfl rfl (by decide) Try.underlying51 rfl i3 (by decide) .tmp)) ⟨rfl, trivial⟩ rfl <| .cons (.plain rfl (c_loadCell rfl rfl (by decide) Try.isAgg3 .tmp)) ⟨rfl, rfl, trivial⟩ rfl <| .cons (.plain rfl (c_assign rfl rfl (by decide) .tmp)) ⟨rfl, trivial⟩ rfl <| .nil) ?_
  show AW _ _ _ _ _
  refine aw_seq ?_
  refine aw_cut0 (fun v9 : (Int × Int × (List (Int))) => [(.tmp 1, .m (.one (.ptr 1 0))), (.tmp 2, .m (.one (.ptr 2 0))), (.tmp 4, .m (.one (.t (.v (.int .i64 v9.1))))), (.cell 1 0, .c (.t (.v (.int .i64 v9.2.1)))), (.cell 1 1, .c (.t (.sl (v9.2.2.map e3)))), (.cell 2 0, .c (.t (.v (.int .i64 0)))), (.cell 2 1, .c (.t (.v (.slice none 0 0))))]) h (fun _ h => ?_) (fun v9 h => ?_)
  · refine aw_block ?_
    refine aw_seq ?_
    refine aw_region (.cons (.plain rfl (c_move rfl rfl (by decide) .tmp)) ⟨rfl, trivial⟩ rfl <| .cons (.plain rfl (c_neq rfl rfl (by decide) .tmp (.const rfl))) ⟨rfl, trivial⟩ rfl <| .cons (.plain rfl (c_assign rfl rfl (by decide) .tmp)) ⟨rfl, trivial⟩ rfl <| .nil) ?_
    show AW _ _ _ _ _
    refine aw_cond .tmp ⟨rfl, trivial⟩ (fun hc3 => ?_) (fun hc3 => ?_)
    · have h := of_true hc3 h
      refine aw_seq ?_
      refine aw_region (.cons (.plain rfl (k_fieldP 3 0 rfl rfl (by decide) Try.underlying51 rfl i3 (by decide) .tmp)) ⟨rfl, trivial⟩ rfl <| .cons (.plain rfl (c_store rfl rfl i3 rfl .tmp (.const rfl))) ⟨rfl, rfl, trivial⟩ rfl <| .nil) ?_
      show AW _ _ _ _ _
      obtain ⟨v5, hv5, h⟩ := bind_some h
      refine aw_region (.cons (.plain rfl (k_fieldP 42 1 rfl rfl (by decide) Try.underlying51 rfl i42 (by decide) .tmp)) ⟨rfl, trivial⟩ rfl <| .cons (.plain rfl (c_loadCell rfl rfl (by decide) Try.isAgg42 .tmp)) ⟨rfl, rfl, trivial⟩ rfl <| .cons (.plain rfl (c_call (ins := [.one (.t (.sl (p0_1.map e3)))]) (caps := []) rfl rfl rfl (by decide) .clo (slices_Clone_int_calls _ _ hv5) (.cons .tmp .nil) rfl rfl)) ⟨rfl, trivial⟩ rfl <| .cons (.plain rfl (k_fieldP 42 1 rfl rfl (by decide) Try.underlying51 rfl i42 (by decide) .tmp)) ⟨rfl, trivial⟩ rfl <| .cons (.plain rfl (c_store rfl rfl i42 rfl .tmp .tmp)) ⟨rfl, rfl, rfl, trivial⟩ rfl <| .nil) ?_
      obtain rfl := Option.some.inj h
      show Goes _ _
      exact (Goes.into [(1, 1), (2, 2)] ⟨rfl, rfl, .refl, .refl, .refl, .refl, .refl, .refl, .refl, trivial⟩)
    · have h := of_false hc3 h
      refine aw_seq ?_
      refine aw_region (.cons (.plain rfl (k_fieldP 42 1 rfl rfl (by decide) Try.underlying51 rfl i42 (by decide) .tmp)) ⟨rfl, trivial⟩ rfl <| .cons (.plain rfl (c_loadCell rfl rfl (by decide) Try.isAgg42 .tmp)) ⟨rfl, rfl, trivial⟩ rfl <| .cons (.plain rfl (k_len (i := Try.t3) (l := p0_1) (f := e3) (fun _ => rfl) (by decide) rfl rfl (by decide) Try.underlying42 (src_tree (f := e3) (fun _ => rfl) (by decide) .tmp))) ⟨rfl, trivial⟩ rfl <| .cons (.plain rfl (c_gtr rfl rfl (by decide) .tmp (.const rfl))) ⟨rfl, trivial⟩ rfl <| .cons (.plain rfl (c_assign rfl rfl (by decide) .tmp)) ⟨rfl, trivial⟩ rfl <| .nil) ?_
      show AW _ _ _ _ _
      refine aw_cond .tmp ⟨rfl, trivial⟩ (fun hc4 => ?_) (fun hc4 => ?_)
      · have h := of_true hc4 h
        refine aw_seq ?_
        obtain ⟨v6, hv6, h⟩ := bind_some h
        refine aw_region (.cons (.plain rfl (k_fieldP 42 1 rfl rfl (by decide) Try.underlying51 rfl i42 (by decide) .tmp)) ⟨rfl, trivial⟩ rfl <| .cons (.plain rfl (c_loadCell rfl rfl (by decide) Try.isAgg42 .tmp)) ⟨rfl, rfl, trivial⟩ rfl <| .cons (.plain rfl (k_index (f := e3) (i := Try.t3) hv6 rfl rfl rfl (by decide) Try.underlying42 i3 .tmp (.const rfl))) ⟨rfl, trivial⟩ rfl <| .cons (.plain rfl (c_loadTree rfl rfl (by decide) Try.isAgg3 .tmp rfl)) ⟨rfl, trivial⟩ rfl <| .cons (.plain rfl (c_assign rfl rfl (by decide) .tmp)) ⟨rfl, trivial⟩ rfl <| .nil) ?_
        show AW _ _ _ _ _
        obtain ⟨v7, hv7, h⟩ := bind_some h
        obtain ⟨v8, hv8, h⟩ := bind_some h
        refine aw_region (.cons (.plain rfl (k_fieldP 42 1 rfl rfl (by decide) Try.underlying51 rfl i42 (by decide) .tmp)) ⟨rfl, trivial⟩ rfl <| .cons (.plain rfl (c_loadCell rfl rfl (by decide) Try.isAgg42 .tmp)) ⟨rfl, rfl, trivial⟩ rfl <| .cons (.plain rfl (k_sliceL (f := e3) (i := Try.t3) hv7 (fun _ => rfl) rfl rfl (by decide) Try.underlying42 i3 (.tree .tmp) (.const rfl))) ⟨rfl, trivial⟩ rfl <| .cons (.plain rfl (c_call (ins := [.one (.t (.sl (v7.map e3)))]) (caps := []) rfl rfl rfl (by decide) .clo (slices_Clone_int_calls _ _ hv8) (.cons .tmp .nil) rfl rfl)) ⟨rfl, trivial⟩ rfl <| .cons (.plain rfl (k_fieldP 42 1 rfl rfl (by decide) Try.underlying51 rfl i42 (by decide) .tmp)) ⟨rfl, trivial⟩ rfl <| .cons (.plain rfl (c_store rfl rfl i42 rfl .tmp .tmp)) ⟨rfl, rfl, rfl, trivial⟩ rfl <| .nil) ?_
        obtain rfl := Option.some.inj h
        show Goes _ _
        exact (Goes.into [(1, 1), (2, 2)] ⟨rfl, rfl, .refl, .refl, .refl, .refl, .refl, .refl, .refl, trivial⟩)
      · have h := of_false hc4 h
        refine aw_skip ?_
        obtain rfl := Option.some.inj h
        show Goes _ _
        exact (Goes.into [(1, 1), (2, 2)] ⟨rfl, rfl, .refl, .refl, .refl, .refl, .refl, .refl, .refl, trivial⟩)
  · show AW _ _ _ _ _
    refine aw_seq ?_
    refine aw_region (.cons (.plain rfl (c_loadBox (cs := [.t (.v (.int .i64 v9.2.1)), .t (.sl (v9.2.2.map e3))]) rfl rfl (by decide) Try.isAgg51 i51 rfl .tmp)) ⟨rfl, rfl, rfl, trivial⟩ rfl <| .cons (.plain rfl (c_move rfl rfl (by decide) .tmp)) ⟨rfl, trivial⟩ rfl <| .cons (.plain rfl (c_storeBox (cs0 := [.t (.v (.int .i64 0)), .t (.v (.slice none 0 0))]) (cs := [.t (.v (.int .i64 v9.2.1)), .t (.sl (v9.2.2.map e3))]) rfl rfl i51 rfl rfl .tmp .tmp)) ⟨rfl, rfl, rfl, rfl, trivial⟩ rfl <| .cons (.plain rfl (c_assign rfl rfl (by decide) .tmp)) ⟨rfl, trivial⟩ rfl <| .nil) ?_
    show AW _ _ _ _ _
    refine aw_goes (σ' := [(.tmp 2, .m (.one (.ptr 2 0))), (.tmp 3, .m (.one (.t (.v (.int .i64 v9.1))))), (.cell 2 0, .c (.t (.v (.int .i64 v9.2.1)))), (.cell 2 1, .c (.t (.sl (v9.2.2.map e3))))]) (Goes.into [(2, 2)] ⟨rfl, rfl, .refl, .refl, .refl, .refl, trivial⟩) ?_
    refine aw_ret ?_
    obtain rfl := Option.some.inj h
    exact ⟨.inr rfl, _, [], (.cellAgg (cs := [.t (.v (.int .i64 v9.2.1)), .t (.sl (v9.2.2.map e3))]) rfl Try.isAgg51 i51 rfl ⟨rfl, rfl, trivial⟩ (.tmp rfl .nil)), rfl, rfl, rfl, ⟨rfl, rfl, trivial⟩⟩

def find_own (p0_0 : List (Int × Int)) (p0_1 : Int) (p0_2 : List (Int × (List (Int)))) (p0_3 : List ((List (Int)))) (p0_4 : Int) (p1 : Int) : Option (((List (Int × Int)) × Int × (List (Int × (List (Int)))) × (List ((List (Int)))) × Int × Int × Int)) := ((at_ p0_2 p1).bind fun v2 => bif !decide (v2.1 = 0) then some 1 else some 2 : Option Int).bind fun v3 => (at_ p0_2 p1).bind fun v4 => (ring_Take v4.1 v4.2).bind fun v5 => bif decide (v5.2.2 = 0) then some ((p0_0, p0_1, p0_2, p0_3, p0_4, 0, 0)) else (slices_Clone_ring_Ring p0_2).bind fun v6 => (at_ v6 p1).bind fun v7 => some ((p0_0, p0_1, set_ v6 p1 ((v5.1, v5.2.1)), p0_3, p0_4, v5.2.2, v3))
theorem find_own_calls (p0_0 : List (Int × Int)) (p0_1 : Int) (p0_2 : List (Int × (List (Int)))) (p0_3 : List ((List (Int)))) (p0_4 : Int) (p1 : Int) (r : ((List (Int × Int)) × Int × (List (Int × (List (Int)))) × (List ((List (Int)))) × Int × Int × Int)) (h : find_own p0_0 p0_1 p0_2 p0_3 p0_4 p1 = some r) : ACalls Try.prog 61 [.agg [.t (.sl (p0_0.map e57)), .t (.v (.int .i64 p0_1)), .t (.sl (p0_2.map e51)), .t (.sl (p0_3.map e42)), .t (.v (.int .u64 p0_4))], .one (.t (.v (.int .i64 p1)))] [] (.tup [(true, [.t (.sl (r.1.map e57)), .t (.v (.int .i64 r.2.1)), .t (.sl (r.2.2.1.map e51)), .t (.sl (r.2.2.2.1.map e42)), .t (.v (.int .u64 r.2.2.2.2.1))]), (false, [.t (.v (.int .i64 r.2.2.2.2.2.1))]), (false, [.t (.v (.int .i64 r.2.2.2.2.2.2))])]) [] := by
  unfold find_own at h
  refine acalls_of_AW Try.func61 rfl Try.call61 (by decide) (show 2 ≤ 41 by decide) rfl rfl ?_
  refine aw_seq ?_
  refine aw_region (.cons (.plain rfl (k_boxN rfl rfl (by decide) .tmp rfl)) ⟨rfl, trivial⟩ rfl <| .cons (.plain rfl (c_alloc rfl rfl (by decide) i33 rfl rfl rfl)) trivial rfl <| .cons (.plain rfl (c_assign rfl rfl (by decide) (.const rfl))) trivial rfl <| .cons (.plain rfl (c_assign rfl rfl (by decide) (.const rfl))) trivial rfl <| .nil) ?_
  show AW _ _ _ _ _
  refine aw_seq ?_
  refine aw_region (.cons (.plain rfl (c_assign rfl rfl (by decide) (.const rfl))) trivial rfl <| .nil) ?_
  show AW _ _ _ _ _
  refine aw_seq ?_
  refine aw_cut0 (fun v3 : Int => [(.tmp 1, .m (.one (.t (.v (.int .i64 p1))))), (.tmp 2, .m (.one (.ptr 2 0))), (.tmp 4, .m (.one (.ptr 4 0))), (.tmp 7, .m (.one (.t (.v (.int .i64 v3))))), (.cell 2 0, .c (.t (.sl (p0_0.map e57)))), (.cell 2 1, .c (.t (.v (.int .i64 p0_1)))), (.cell 2 2, .c (.t (.sl (p0_2.map e51)))), (.cell 2 3, .c (.t (.sl (p0_3.map e42)))), (.cell 2 4, .c (.t (.v (.int .u64 p0_4)))), (.cell 4 0, .c (.t (.v (.slice none 0 0)))), (.cell 4 1, .c (.t (.v (.int .i64 0)))), (.cell 4 2, .c (.t (.v (.slice none 0 0)))), (.cell 4 3, .c (.t (.v (.slice none 0 0)))), (.cell 4 4, .c (.t (.v (.int .u64 0))))]) h (fun _ h => ?_) (fun v3 h => ?_)
  · refine aw_seq ?_
    obtain ⟨v2, hv2, h⟩ := bind_some h
    refine aw_region (.cons (.plain rfl (k_fieldP 30 2 rfl rfl (by decide) Try.underlying33 rfl i30 (by decide) .tmp)) ⟨rfl, trivial⟩ rfl <| .cons (.plain rfl (c_loadCell rfl rfl (by decide) Try.isAgg30 .tmp)) ⟨rfl, rfl, trivial⟩ rfl <| .cons (.plain rfl (c_move rfl rfl (by decide) .tmp)) ⟨rfl, trivial⟩ rfl <| .cons (.plain rfl (k_index (f := e51) (i := Try.t51) hv2 rfl rfl rfl (by decide) Try.underlying30 i51 .tmp .tmp)) ⟨rfl, rfl, trivial⟩ rfl <| .cons (.plain rfl (k_fieldT 3 0 rfl rfl (by decide) Try.underlying51 rfl i3 (by decide) .tmp)) ⟨rfl, trivial⟩ rfl <| .cons (.plain rfl (c_loadTree rfl rfl (by decide) Try.isAgg3 .tmp rfl)) ⟨rfl, trivial⟩ rfl <| .cons (.plain rfl (c_neq rfl rfl (by decide) .tmp (.const rfl))) ⟨rfl, trivial⟩ rfl <| .nil) ?_
    show AW _ _ _ _ _
    refine aw_cond .tmp ⟨rfl, trivial⟩ (fun hc2 => ?_) (fun hc2 => ?_)
    · have h := of_true hc2 h
      refine aw_region (.cons (.plain rfl (c_assign rfl rfl (by decide) (.const rfl))) trivial rfl <| .nil) ?_
      obtain rfl := Option.some.inj h
      show Goes _ _
      exact (Goes.into [(2, 2), (4, 4)] ⟨rfl, rfl, .refl, .refl, .refl, .refl, .refl, .refl, .refl, .refl, .refl, .refl, .refl, .refl, .refl, .refl, trivial⟩)
    · have h := of_false hc2 h
      refine aw_skip ?_
      obtain rfl := Option.some.inj h
      show Goes _ _
      exact (Goes.into [(2, 2), (4, 4)] ⟨rfl, rfl, .refl, .refl, .refl, .refl, .refl, .refl, .refl, .refl, .refl, .refl, .refl, .refl, .refl, .refl, trivial⟩)
  · show AW _ _ _ _ _
    refine aw_seq ?_
    obtain ⟨v4, hv4, h⟩ := bind_some h
    obtain ⟨v5, hv5, h⟩ := bind_some h
    refine aw_region (.cons (.plain rfl (k_fieldP 30 2 rfl rfl (by decide) Try.underlying33 rfl i30 (by decide) .tmp)) ⟨rfl, trivial⟩ rfl <| .cons (.plain rfl (c_loadCell rfl rfl (by decide) Try.isAgg30 .tmp)) ⟨rfl, rfl, trivial⟩ rfl <| .cons (.plain rfl (c_move rfl rfl (by decide) .tmp)) ⟨rfl, trivial⟩ rfl <| .cons (.plain rfl (k_index (f := e51) (i := Try.t51) hv4 rfl rfl rfl (by decide) Try.underlying30 i51 .tmp .tmp)) ⟨rfl, rfl, trivial⟩ rfl <| .cons (.plain rfl (c_loadTrees (cs := [.v (.int .i64 v4.1), .sl (v4.2.map e3)]) rfl rfl (by decide) Try.isAgg51 i51 rfl (show 0 + 2 ≤ 2 by decide) .tmp)) ⟨rfl, trivial⟩ rfl <| .cons (.plain rfl (c_call (ins := [.agg [.t (.v (.int .i64 v4.1)), .t (.sl (v4.2.map e3))]]) (caps := []) rfl rfl rfl (by decide) .clo (ring_Take_calls _ _ _ hv5) (.cons .tmp .nil) rfl rfl)) ⟨rfl, trivial⟩ rfl <| .cons (.plain rfl (c_move rfl rfl (by decide) .tmp)) ⟨rfl, trivial⟩ rfl <| .cons (.plain rfl (c_extract rfl rfl (by decide) .tmp rfl rfl)) ⟨rfl, trivial⟩ rfl <| .cons (.plain rfl (c_extract rfl rfl (by decide) .tmp rfl rfl)) ⟨rfl, trivial⟩ rfl <| .cons (.plain rfl (c_alloc rfl rfl (by decide) i51 rfl rfl rfl)) trivial rfl <| .cons (.plain rfl (c_storeBox (cs0 := [.t (.v (.int .i64 0)), .t (.v (.slice none 0 0))]) (cs := [.t (.v (.int .i64 v5.1)), .t (.sl (v5.2.1.map e3))]) rfl rfl i51 rfl rfl .tmp .tmp)) ⟨rfl, rfl, rfl, rfl, trivial⟩ rfl <| .cons (.plain rfl (c_assign rfl rfl (by decide) .tmp)) ⟨rfl, trivial⟩ rfl <| .nil) ?_
    show AW _ _ _ _ _
    refine aw_seq ?_
    refine aw_seq ?_
    refine aw_region (.cons (.plain rfl (c_move rfl rfl (by decide) .tmp)) ⟨rfl, trivial⟩ rfl <| .cons (.plain rfl (c_eql rfl rfl (by decide) .tmp (.const rfl))) ⟨rfl, trivial⟩ rfl <| .nil) ?_
    show AW _ _ _ _ _
    refine aw_cond .tmp ⟨rfl, trivial⟩ (fun hc3 => ?_) (fun hc3 => ?_)
    · have h := of_true hc3 h
      refine aw_seq ?_
      refine aw_region (.cons (.plain rfl (c_loadBox (cs := [.t (.sl (p0_0.map e57)), .t (.v (.int .i64 p0_1)), .t (.sl (p0_2.map e51)), .t (.sl (p0_3.map e42)), .t (.v (.int .u64 p0_4))]) rfl rfl (by decide) Try.isAgg33 i33 rfl .tmp)) ⟨rfl, rfl, rfl, rfl, rfl, rfl, trivial⟩ rfl <| .cons (.plain rfl (c_storeBox (cs0 := [.t (.v (.slice none 0 0)), .t (.v (.int .i64 0)), .t (.v (.slice none 0 0)), .t (.v (.slice none 0 0)), .t (.v (.int .u64 0))]) (cs := [.t (.sl (p0_0.map e57)), .t (.v (.int .i64 p0_1)), .t (.sl (p0_2.map e51)), .t (.sl (p0_3.map e42)), .t (.v (.int .u64 p0_4))]) rfl rfl i33 rfl rfl .tmp .tmp)) ⟨rfl, rfl, rfl, rfl, rfl, rfl, rfl, trivial⟩ rfl <| .cons (.plain rfl (c_assign rfl rfl (by decide) (.const rfl))) trivial rfl <| .cons (.plain rfl (c_assign rfl rfl (by decide) (.const rfl))) trivial rfl <| .nil) ?_
      show AW _ _ _ _ _
      refine aw_goes (σ' := [(.tmp 4, .m (.one (.ptr 4 0))), (.tmp 5, .m (.one (.t (.v (.int .i64 0))))), (.tmp 6, .m (.one (.t (.v (.int .i64 0))))), (.cell 4 0, .c (.t (.sl (p0_0.map e57)))), (.cell 4 1, .c (.t (.v (.int .i64 p0_1)))), (.cell 4 2, .c (.t (.sl (p0_2.map e51)))), (.cell 4 3, .c (.t (.sl (p0_3.map e42)))), (.cell 4 4, .c (.t (.v (.int .u64 p0_4))))]) (Goes.into [(4, 4)] ⟨rfl, rfl, .refl, .refl, .refl, .refl, .refl, .refl, .refl, .refl, trivial⟩) ?_
      refine aw_ret ?_
      obtain rfl := Option.some.inj h
      exact ⟨.inr rfl, _, [], (.cellAgg (cs := [.t (.sl (p0_0.map e57)), .t (.v (.int .i64 p0_1)), .t (.sl (p0_2.map e51)), .t (.sl (p0_3.map e42)), .t (.v (.int .u64 p0_4))]) rfl Try.isAgg33 i33 rfl ⟨rfl, rfl, rfl, rfl, rfl, trivial⟩ (.tmp rfl (.tmp rfl .nil))), rfl, rfl, rfl, ⟨rfl, rfl, trivial⟩⟩
    · have h := of_false hc3 h
      refine aw_skip ?_
      show AW _ _ _ _ _
      refine aw_seq ?_
      obtain ⟨v6, hv6, h⟩ := bind_some h
      refine aw_region (.cons (.plain rfl (k_fieldP 30 2 rfl rfl (by decide) Try.underlying33 rfl i30 (by decide) .tmp)) ⟨rfl, trivial⟩ rfl <| .cons (.plain rfl (c_loadCell rfl rfl (by decide) Try.isAgg30 .tmp)) ⟨rfl, rfl, trivial⟩ rfl <| .cons (.plain rfl (c_callNew (out' := .one (.row 31)) (post' := [(.row 31, .r 51 2 (v6.map e51))]) (qs := [(31, 2000000)]) (nw := [31]) rfl rfl rfl (by decide) (slices_Clone_ring_Ring_row _ _ hv6) (.cons .tmp .nil) rfl rfl rfl rfl rfl ⟨.refl, trivial⟩ rfl rfl rfl)) ⟨rfl, trivial⟩ rfl <| .cons (.plain rfl (k_fieldP 30 2 rfl rfl (by decide) Try.underlying33 rfl i30 (by decide) .tmp)) ⟨rfl, trivial⟩ rfl <| .cons (.plain rfl (c_store rfl rfl i30 rfl .tmp .tmp)) ⟨rfl, rfl, rfl, trivial⟩ rfl <| .nil) ?_
      show AW _ _ _ _ _
      refine aw_seq ?_
      obtain ⟨v7, hv7, h⟩ := bind_some h
      refine aw_region (.cons (.plain rfl (k_fieldP 30 2 rfl rfl (by decide) Try.underlying33 rfl i30 (by decide) .tmp)) ⟨rfl, trivial⟩ rfl <| .cons (.plain rfl (c_loadCell rfl rfl (by decide) Try.isAgg30 .tmp)) ⟨rfl, rfl, trivial⟩ rfl <| .cons (.plain rfl (c_move rfl rfl (by decide) .tmp)) ⟨rfl, trivial⟩ rfl <| .cons (.plain rfl (c_loadBox (cs := [.t (.v (.int .i64 v5.1)), .t (.sl (v5.2.1.map e3))]) rfl rfl (by decide) Try.isAgg51 i51 rfl .tmp)) ⟨rfl, rfl, rfl, trivial⟩ rfl <| .cons (.plain rfl (k_indexRow (f := e51) (i := Try.t51) hv7 rfl rfl rfl (by decide) Try.underlying30 i51 .tmp .tmp)) ⟨rfl, rfl, rfl, trivial⟩ rfl <| .cons (.plain rfl (k_setRowN (f := e51) (new := (v5.1, v5.2.1)) (ts := [.v (.int .i64 v5.1), .sl (v5.2.1.map e3)]) hv7 (show 0 + 2 ≤ 2 by decide) rfl rfl rfl i51 rfl .tmp .tmp)) ⟨rfl, rfl, rfl, trivial⟩ rfl <| .nil) ?_
      show AW _ _ _ _ _
      refine aw_seq ?_
      refine aw_region (.cons (.plain rfl (c_loadBox (cs := [.t (.sl (p0_0.map e57)), .t (.v (.int .i64 p0_1)), .row 31, .t (.sl (p0_3.map e42)), .t (.v (.int .u64 p0_4))]) rfl rfl (by decide) Try.isAgg33 i33 rfl .tmp)) ⟨rfl, rfl, rfl, rfl, rfl, rfl, trivial⟩ rfl <| .cons (.plain rfl (c_move rfl rfl (by decide) .tmp)) ⟨rfl, trivial⟩ rfl <| .cons (.plain rfl (c_move rfl rfl (by decide) .tmp)) ⟨rfl, trivial⟩ rfl <| .cons (.plain rfl (c_storeBox (cs0 := [.t (.v (.slice none 0 0)), .t (.v (.int .i64 0)), .t (.v (.slice none 0 0)), .t (.v (.slice none 0 0)), .t (.v (.int .u64 0))]) (cs := [.t (.sl (p0_0.map e57)), .t (.v (.int .i64 p0_1)), .row 31, .t (.sl (p0_3.map e42)), .t (.v (.int .u64 p0_4))]) rfl rfl i33 rfl rfl .tmp .tmp)) ⟨rfl, rfl, rfl, rfl, rfl, rfl, rfl, trivial⟩ rfl <| .cons (.plain rfl (c_assign rfl rfl (by decide) .tmp)) ⟨rfl, trivial⟩ rfl <| .cons (.plain rfl (c_assign rfl rfl (by decide) .tmp)) ⟨rfl, trivial⟩ rfl <| .nil) ?_
      show AW _ _ _ _ _
      refine aw_goes (σ' := [(.tmp 4, .m (.one (.ptr 4 0))), (.tmp 5, .m (.one (.t (.v (.int .i64 v5.2.2))))), (.tmp 6, .m (.one (.t (.v (.int .i64 v3))))), (.cell 4 0, .c (.t (.sl (p0_0.map e57)))), (.cell 4 1, .c (.t (.v (.int .i64 p0_1)))), (.cell 4 2, .c (.t (.sl ((set_ v6 p1 ((v5.1, v5.2.1))).map e51)))), (.cell 4 3, .c (.t (.sl (p0_3.map e42)))), (.cell 4 4, .c (.t (.v (.int .u64 p0_4))))]) (Goes.trans (Goes.freezeRow (n := 31) rfl) (Goes.into [(4, 4)] ⟨rfl, rfl, .refl, .refl, .refl, .refl, .refl, .refl, .refl, .refl, trivial⟩)) ?_
      refine aw_ret ?_
      obtain rfl := Option.some.inj h
      exact ⟨.inr rfl, _, [], (.cellAgg (cs := [.t (.sl (p0_0.map e57)), .t (.v (.int .i64 p0_1)), .t (.sl ((set_ v6 p1 ((v5.1, v5.2.1))).map e51)), .t (.sl (p0_3.map e42)), .t (.v (.int .u64 p0_4))]) rfl Try.isAgg33 i33 rfl ⟨rfl, rfl, rfl, rfl, rfl, trivial⟩ (.tmp rfl (.tmp rfl .nil))), rfl, rfl, rfl, ⟨rfl, rfl, trivial⟩⟩

def find_Local_1 (c0_0 : List (Int × Int)) (c0_1 : Int) (c0_2 : List (Int × (List (Int)))) (c0_3 : List ((List (Int)))) (c0_4 : Int) (c1 : Int) : Option (((List (Int × Int)) × Int × (List (Int × (List (Int)))) × (List ((List (Int)))) × Int × Int × Int)) := (find_own c0_0 c0_1 c0_2 c0_3 c0_4 c1).bind fun v1 => some ((v1.1, v1.2.1, v1.2.2.1, v1.2.2.2.1, v1.2.2.2.2.1, v1.2.2.2.2.2.1, v1.2.2.2.2.2.2))
theorem find_Local_1_calls (c0_0 : List (Int × Int)) (c0_1 : Int) (c0_2 : List (Int × (List (Int)))) (c0_3 : List ((List (Int)))) (c0_4 : Int) (c1 : Int) (r : ((List (Int × Int)) × Int × (List (Int × (List (Int)))) × (List ((List (Int)))) × Int × Int × Int)) (h : find_Local_1 c0_0 c0_1 c0_2 c0_3 c0_4 c1 = some r) : ACalls Try.prog 60 [.one (.tptr [.sl (c0_0.map e57), .v (.int .i64 c0_1), .sl (c0_2.map e51), .sl (c0_3.map e42), .v (.int .u64 c0_4)] 0), .one (.tptr [.v (.int .i64 c1)] 0)] [] (.tup [(true, [.t (.sl (r.1.map e57)), .t (.v (.int .i64 r.2.1)), .t (.sl (r.2.2.1.map e51)), .t (.sl (r.2.2.2.1.map e42)), .t (.v (.int .u64 r.2.2.2.2.1))]), (false, [.t (.v (.int .i64 r.2.2.2.2.2.1))]), (false, [.t (.v (.int .i64 r.2.2.2.2.2.2))])]) [] := by
  unfold find_Local_1 at h
  refine acalls_of_AW Try.func60 rfl Try.call60 (by decide) (show 2 ≤ 11 by decide) rfl rfl ?_
  refine aw_seq ?_
  refine aw_region (.cons (.plain rfl (c_alloc rfl rfl (by decide) i33 rfl rfl rfl)) trivial rfl <| .cons (.plain rfl (c_assign rfl rfl (by decide) (.const rfl))) trivial rfl <| .cons (.plain rfl (c_assign rfl rfl (by decide) (.const rfl))) trivial rfl <| .nil) ?_
  show AW _ _ _ _ _
  refine aw_seq ?_
  obtain ⟨v1, hv1, h⟩ := bind_some h
  refine aw_region (.cons (.plain rfl (c_loadTrees (cs := [.sl (c0_0.map e57), .v (.int .i64 c0_1), .sl (c0_2.map e51), .sl (c0_3.map e42), .v (.int .u64 c0_4)]) rfl rfl (by decide) Try.isAgg33 i33 rfl (show 0 + 5 ≤ 5 by decide) .tmp)) ⟨rfl, trivial⟩ rfl <| .cons (.plain rfl (c_loadTree rfl rfl (by decide) Try.isAgg3 .tmp rfl)) ⟨rfl, trivial⟩ rfl <| .cons (.plain rfl (c_call (ins := [.agg [.t (.sl (c0_0.map e57)), .t (.v (.int .i64 c0_1)), .t (.sl (c0_2.map e51)), .t (.sl (c0_3.map e42)), .t (.v (.int .u64 c0_4))], .one (.t (.v (.int .i64 c1)))]) (caps := []) rfl rfl rfl (by decide) .clo (find_own_calls _ _ _ _ _ _ _ hv1) (.cons .tmp (.cons .tmp .nil)) rfl rfl)) ⟨rfl, rfl, trivial⟩ rfl <| .cons (.plain rfl (c_extract rfl rfl (by decide) .tmp rfl rfl)) ⟨rfl, trivial⟩ rfl <| .cons (.plain rfl (c_extract rfl rfl (by decide) .tmp rfl rfl)) ⟨rfl, trivial⟩ rfl <| .cons (.plain rfl (c_extract rfl rfl (by decide) .tmp rfl rfl)) ⟨rfl, trivial⟩ rfl <| .cons (.plain rfl (c_storeBox (cs0 := [.t (.v (.slice none 0 0)), .t (.v (.int .i64 0)), .t (.v (.slice none 0 0)), .t (.v (.slice none 0 0)), .t (.v (.int .u64 0))]) (cs := [.t (.sl (v1.1.map e57)), .t (.v (.int .i64 v1.2.1)), .t (.sl (v1.2.2.1.map e51)), .t (.sl (v1.2.2.2.1.map e42)), .t (.v (.int .u64 v1.2.2.2.2.1))]) rfl rfl i33 rfl rfl .tmp .tmp)) ⟨rfl, rfl, rfl, rfl, rfl, rfl, rfl, trivial⟩ rfl <| .cons (.plain rfl (c_assign rfl rfl (by decide) .tmp)) ⟨rfl, trivial⟩ rfl <| .cons (.plain rfl (c_assign rfl rfl (by decide) .tmp)) ⟨rfl, trivial⟩ rfl <| .nil) ?_
  show AW _ _ _ _ _
  refine aw_goes (σ' := [(.tmp 2, .m (.one (.ptr 2 0))), (.tmp 3, .m (.one (.t (.v (.int .i64 v1.2.2.2.2.2.1))))), (.tmp 4, .m (.one (.t (.v (.int .i64 v1.2.2.2.2.2.2))))), (.cell 2 0, .c (.t (.sl (v1.1.map e57)))), (.cell 2 1, .c (.t (.v (.int .i64 v1.2.1)))), (.cell 2 2, .c (.t (.sl (v1.2.2.1.map e51)))), (.cell 2 3, .c (.t (.sl (v1.2.2.2.1.map e42)))), (.cell 2 4, .c (.t (.v (.int .u64 v1.2.2.2.2.1))))]) (Goes.into [(2, 2)] ⟨rfl, rfl, .refl, .refl, .refl, .refl, .refl, .refl, .refl, .refl, trivial⟩) ?_
  refine aw_ret ?_
  obtain rfl := Option.some.inj h
  exact ⟨.inr rfl, _, [], (.cellAgg (cs := [.t (.sl (v1.1.map e57)), .t (.v (.int .i64 v1.2.1)), .t (.sl (v1.2.2.1.map e51)), .t (.sl (v1.2.2.2.1.map e42)), .t (.v (.int .u64 v1.2.2.2.2.1))]) rfl Try.isAgg33 i33 rfl ⟨rfl, rfl, rfl, rfl, rfl, trivial⟩ (.tmp rfl (.tmp rfl .nil))), rfl, rfl, rfl, ⟨rfl, rfl, trivial⟩⟩

def slices_Clone_Lint (p0 : List ((List (Int)))) : Option (List ((List (Int)))) := app_ [] p0
theorem slices_Clone_Lint_row (p0 : List ((List (Int)))) (r : List ((List (Int)))) (h : slices_Clone_Lint p0 = some r) : ACalls Try.prog 68 [.one (.t (.sl (p0.map e42)))] [] (.one (.row 2000000)) [(.row 2000000, .r 42 1 (r.map e42))] := by
  unfold slices_Clone_Lint at h
  refine acalls_of_AW Try.func68 rfl Try.call68 (by decide) (show 1 ≤ 8 by decide) rfl rfl ?_
  refine aw_seq ?_
  refine aw_region (.cons (.plain rfl (c_assign rfl rfl (by decide) (.const rfl))) trivial rfl <| .nil) ?_
  show AW _ _ _ _ _
  refine aw_seq ?_
  refine aw_seq ?_
  refine aw_region_nil (.cons (.plain rfl (c_move rfl rfl (by decide) .tmp)) ⟨rfl, trivial⟩ rfl <| .nil) rfl rfl rfl rfl (by decide) Try.underlying24 (.tree .tmp) ⟨rfl, trivial⟩ (fun b hb => ?_)
  show AW _ _ _ _ _
  refine aw_cond .tmp ⟨rfl, trivial⟩ (fun hc => ?_) (fun hc => ?_)
  · obtain rfl : p0 = [] := List.map_eq_nil_iff.1 (hb hc)
    obtain rfl : [] = r := by simpa [app_] using h
    refine aw_seq ?_
    refine aw_region (.cons (.plain rfl (c_assign rfl rfl (by decide) (.const rfl))) trivial rfl <| .nil) ?_
    show AW _ _ _ _ _
    refine aw_goes (σ' := [(.tmp 2, .m (.one (.row 7))), (.row 7, .r 42 1 [])]) (Goes.trans (Goes.nilRow (t := 2) (n := 7) 42 1 (by decide) rfl (by decide) rfl) (Goes.into [(7, 7)] ⟨rfl, rfl, .refl, .refl, trivial⟩)) ?_
    refine aw_ret ?_
    exact ⟨.inr rfl, _, [(2000000, 7)], (.tmp rfl .nil), rfl, rfl, rfl, ⟨rfl, rfl, .refl, trivial⟩⟩
  · refine aw_skip ?_
    show AW _ _ _ _ _
    refine aw_seq ?_
    refine aw_region (.cons (.plain rfl (c_buildSlice (sz := 1) (es := ([] : List ((List (Int)))).map e42) rfl rfl (by decide) Try.underlying24 i42 rfl rfl rfl rfl (by decide) .nil rfl (emb_len (f := e42) (n := 1) (fun _ => rfl) _) (by decide))) trivial rfl <| .cons (.plain rfl (c_move rfl rfl (by decide) .tmp)) ⟨rfl, trivial⟩ rfl <| .cons (.plain rfl (k_appendRow (f := e42) h (by decide) (by decide) rfl rfl (by decide) Try.underlying24 i42 rfl rfl rfl rfl (by decide) .tmp (src_tree (f := e42) (fun _ => rfl) (by decide) .tmp))) ⟨rfl, rfl, rfl, trivial⟩ rfl <| .cons (.plain rfl (c_assign rfl rfl (by decide) .tmp)) ⟨rfl, trivial⟩ rfl <| .nil) ?_
    show AW _ _ _ _ _
    refine aw_ret ?_
    exact ⟨.inr rfl, _, [(2000000, 7)], (.tmp rfl .nil), rfl, rfl, rfl, ⟨rfl, rfl, .refl, trivial⟩⟩
def find_row (p0_0 : List (Int × Int)) (p0_1 : Int) (p0_2 : List (Int × (List (Int)))) (p0_3 : List ((List (Int)))) (p0_4 : Int) (p1 : Int) : Option (((List (Int × Int)) × Int × (List (Int × (List (Int)))) × (List ((List (Int)))) × Int × Int × Int)) := (at_ p0_3 p1).bind fun v1 => bif decide ((v1.length : Int) = 0) then some ((p0_0, p0_1, p0_2, p0_3, p0_4, 0, 0)) else (slices_Clone_Lint p0_3).bind fun v2 => (drop_ v1 1).bind fun v3 => (slices_Clone_int v3).bind fun v4 => (at_ v2 p1).bind fun v5 => (at_ v1 0).bind fun v6 => some ((p0_0, p0_1, p0_2, set_ v2 p1 v4, p0_4, v6, 3))
theorem find_row_calls (p0_0 : List (Int × Int)) (p0_1 : Int) (p0_2 : List (Int × (List (Int)))) (p0_3 : List ((List (Int)))) (p0_4 : Int) (p1 : Int) (r : ((List (Int × Int)) × Int × (List (Int × (List (Int)))) × (List ((List (Int)))) × Int × Int × Int)) (h : find_row p0_0 p0_1 p0_2 p0_3 p0_4 p1 = some r) : ACalls Try.prog 63 [.agg [.t (.sl (p0_0.map e57)), .t (.v (.int .i64 p0_1)), .t (.sl (p0_2.map e51)), .t (.sl (p0_3.map e42)), .t (.v (.int .u64 p0_4))], .one (.t (.v (.int .i64 p1)))] [] (.tup [(true, [.t (.sl (r.1.map e57)), .t (.v (.int .i64 r.2.1)), .t (.sl (r.2.2.1.map e51)), .t (.sl (r.2.2.2.1.map e42)), .t (.v (.int .u64 r.2.2.2.2.1))]), (false, [.t (.v (.int .i64 r.2.2.2.2.2.1))]), (false, [.t (.v (.int .i64 r.2.2.2.2.2.2))])]) [] := by
  unfold find_row at h
  refine acalls_of_AW Try.func63 rfl Try.call63 (by decide) (show 2 ≤ 32 by decide) rfl rfl ?_
  refine aw_seq ?_
  refine aw_region (.cons (.plain rfl (k_boxN rfl rfl (by decide) .tmp rfl)) ⟨rfl, trivial⟩ rfl <| .cons (.plain rfl (c_alloc rfl rfl (by decide) i33 rfl rfl rfl)) trivial rfl <| .cons (.plain rfl (c_assign rfl rfl (by decide) (.const rfl))) trivial rfl <| .cons (.plain rfl (c_assign rfl rfl (by decide) (.const rfl))) trivial rfl <| .nil) ?_
  show AW _ _ _ _ _
  refine aw_seq ?_
  obtain ⟨v1, hv1, h⟩ := bind_some h
  refine aw_region (.cons (.plain rfl (k_fieldP 24 3 rfl rfl (by decide) Try.underlying33 rfl i24 (by decide) .tmp)) ⟨rfl, trivial⟩ rfl <| .cons (.plain rfl (c_loadCell rfl rfl (by decide) Try.isAgg24 .tmp)) ⟨rfl, rfl, trivial⟩ rfl <| .cons (.plain rfl (c_move rfl rfl (by decide) .tmp)) ⟨rfl, trivial⟩ rfl <| .cons (.plain rfl (k_index (f := e42) (i := Try.t42) hv1 rfl rfl rfl (by decide) Try.underlying24 i42 .tmp .tmp)) ⟨rfl, rfl, trivial⟩ rfl <| .cons (.plain rfl (c_loadTree rfl rfl (by decide) Try.isAgg42 .tmp rfl)) ⟨rfl, trivial⟩ rfl <| .cons (.plain rfl (c_assign rfl rfl (by decide) .tmp)) ⟨rfl, trivial⟩ rfl <| .nil) ?_
  show AW _ _ _ _ _
  refine aw_seq ?_
  refine aw_seq ?_
  refine aw_region (.cons (.plain rfl (c_move rfl rfl (by decide) .tmp)) ⟨rfl, trivial⟩ rfl <| .cons (.plain rfl (k_len (i := Try.t3) (l := v1) (f := e3) (fun _ => rfl) (by decide) rfl rfl (by decide) Try.underlying42 (src_tree (f := e3) (fun _ => rfl) (by decide) .tmp))) ⟨rfl, trivial⟩ rfl <| .cons (.plain rfl (c_eql rfl rfl (by decide) .tmp (.const rfl))) ⟨rfl, trivial⟩ rfl <| .nil) ?_
  show AW _ _ _ _ _
  refine aw_cond .tmp ⟨rfl, trivial⟩ (fun hc1 => ?_) (fun hc1 => ?_)
  · have h := of_true hc1 h
    refine aw_seq ?_
    refine aw_region (.cons (.plain rfl (c_loadBox (cs := [.t (.sl (p0_0.map e57)), .t (.v (.int .i64 p0_1)), .t (.sl (p0_2.map e51)), .t (.sl (p0_3.map e42)), .t (.v (.int .u64 p0_4))]) rfl rfl (by decide) Try.isAgg33 i33 rfl .tmp)) ⟨rfl, rfl, rfl, rfl, rfl, rfl, trivial⟩ rfl <| .cons (.plain rfl (c_storeBox (cs0 := [.t (.v (.slice none 0 0)), .t (.v (.int .i64 0)), .t (.v (.slice none 0 0)), .t (.v (.slice none 0 0)), .t (.v (.int .u64 0))]) (cs := [.t (.sl (p0_0.map e57)), .t (.v (.int .i64 p0_1)), .t (.sl (p0_2.map e51)), .t (.sl (p0_3.map e42)), .t (.v (.int .u64 p0_4))]) rfl rfl i33 rfl rfl .tmp .tmp)) ⟨rfl, rfl, rfl, rfl, rfl, rfl, rfl, trivial⟩ rfl <| .cons (.plain rfl (c_assign rfl rfl (by decide) (.const rfl))) trivial rfl <| .cons (.plain rfl (c_assign rfl rfl (by decide) (.const rfl))) trivial rfl <| .nil) ?_
    show AW _ _ _ _ _
    refine aw_goes (σ' := [(.tmp 4, .m (.one (.ptr 4 0))), (.tmp 5, .m (.one (.t (.v (.int .i64 0))))), (.tmp 6, .m (.one (.t (.v (.int .i64 0))))), (.cell 4 0, .c (.t (.sl (p0_0.map e57)))), (.cell 4 1, .c (.t (.v (.int .i64 p0_1)))), (.cell 4 2, .c (.t (.sl (p0_2.map e51)))), (.cell 4 3, .c (.t (.sl (p0_3.map e42)))), (.cell 4 4, .c (.t (.v (.int .u64 p0_4))))]) (Goes.into [(4, 4)] ⟨rfl, rfl, .refl, .refl, .refl, .refl, .refl, .refl, .refl, .refl, trivial⟩) ?_
    refine aw_ret ?_
    obtain rfl := Option.some.inj h
    exact ⟨.inr rfl, _, [], (.cellAgg (cs := [.t (.sl (p0_0.map e57)), .t (.v (.int .i64 p0_1)), .t (.sl (p0_2.map e51)), .t (.sl (p0_3.map e42)), .t (.v (.int .u64 p0_4))]) rfl Try.isAgg33 i33 rfl ⟨rfl, rfl, rfl, rfl, rfl, trivial⟩ (.tmp rfl (.tmp rfl .nil))), rfl, rfl, rfl, ⟨rfl, rfl, trivial⟩⟩
  · have h := of_false hc1 h
    refine aw_skip ?_
    show AW _ _ _ _ _
    refine aw_seq ?_
    obtain ⟨v2, hv2, h⟩ := bind_some h
    refine aw_region (.cons (.plain rfl (k_fieldP 24 3 rfl rfl (by decide) Try.underlying33 rfl i24 (by decide) .tmp)) ⟨rfl, trivial⟩ rfl <| .cons (.plain rfl (c_loadCell rfl rfl (by decide) Try.isAgg24 .tmp)) ⟨rfl, rfl, trivial⟩ rfl <| .cons (.plain rfl (c_callNew (out' := .one (.row 19)) (post' := [(.row 19, .r 42 1 (v2.map e42))]) (qs := [(19, 2000000)]) (nw := [19]) rfl rfl rfl (by decide) (slices_Clone_Lint_row _ _ hv2) (.cons .tmp .nil) rfl rfl rfl rfl rfl ⟨.refl, trivial⟩ rfl rfl rfl)) ⟨rfl, trivial⟩ rfl <| .cons (.plain rfl (k_fieldP 24 3 rfl rfl (by decide) Try.underlying33 rfl i24 (by decide) .tmp)) ⟨rfl, trivial⟩ rfl <| .cons (.plain rfl (c_store rfl rfl i24 rfl .tmp .tmp)) ⟨rfl, rfl, rfl, trivial⟩ rfl <| .nil) ?_
    show AW _ _ _ _ _
    refine aw_seq ?_
    obtain ⟨v3, hv3, h⟩ := bind_some h
    obtain ⟨v4, hv4, h⟩ := bind_some h
    obtain ⟨v5, hv5, h⟩ := bind_some h
    refine aw_region_draw mixed (.cons (.plain rfl (k_fieldP 24 3 rfl rfl (by decide) Try.underlying33 rfl i24 (by decide) .tmp)) ⟨rfl, trivial⟩ rfl <| .cons (.plain rfl (c_loadCell rfl rfl (by decide) Try.isAgg24 .tmp)) ⟨rfl, rfl, trivial⟩ rfl <| .cons (.plain rfl (c_move rfl rfl (by decide) .tmp)) ⟨rfl, trivial⟩ rfl <| .cons (.plain rfl (c_move rfl rfl (by decide) .tmp)) ⟨rfl, trivial⟩ rfl <| .cons (.plain rfl (k_sliceL (f := e3) (i := Try.t3) hv3 (fun _ => rfl) rfl rfl (by decide) Try.underlying42 i3 (.tree .tmp) (.const rfl))) ⟨rfl, trivial⟩ rfl <| .cons (.plain rfl (c_call (ins := [.one (.t (.sl (v3.map e3)))]) (caps := []) rfl rfl rfl (by decide) .clo (slices_Clone_int_calls _ _ hv4) (.cons .tmp .nil) rfl rfl)) ⟨rfl, trivial⟩ rfl <| .cons (.plain rfl (k_indexRow (f := e42) (i := Try.t42) hv5 rfl rfl rfl (by decide) Try.underlying24 i42 .tmp .tmp)) ⟨rfl, rfl, rfl, trivial⟩ rfl <| .cons (.plain rfl (k_setRow1 (f := e42) (new := v4) hv5 (show 0 < 1 by decide) rfl rfl rfl i42 rfl .tmp .tmp)) ⟨rfl, rfl, rfl, trivial⟩ rfl <| .nil) rfl rfl ?_
    show AW _ _ _ _ _
    refine aw_seq ?_
    obtain ⟨v6, hv6, h⟩ := bind_some h
    refine aw_region_draw mixed (.cons (.plain rfl (c_loadBox (cs := [.t (.sl (p0_0.map e57)), .t (.v (.int .i64 p0_1)), .t (.sl (p0_2.map e51)), .row 19, .t (.v (.int .u64 p0_4))]) rfl rfl (by decide) Try.isAgg33 i33 rfl .tmp)) ⟨rfl, rfl, rfl, rfl, rfl, rfl, trivial⟩ rfl <| .cons (.plain rfl (c_move rfl rfl (by decide) .tmp)) ⟨rfl, trivial⟩ rfl <| .cons (.plain rfl (k_index (f := e3) (i := Try.t3) hv6 rfl rfl rfl (by decide) Try.underlying42 i3 .tmp (.const rfl))) ⟨rfl, trivial⟩ rfl <| .cons (.plain rfl (c_loadTree rfl rfl (by decide) Try.isAgg3 .tmp rfl)) ⟨rfl, trivial⟩ rfl <| .cons (.plain rfl (c_storeBox (cs0 := [.t (.v (.slice none 0 0)), .t (.v (.int .i64 0)), .t (.v (.slice none 0 0)), .t (.v (.slice none 0 0)), .t (.v (.int .u64 0))]) (cs := [.t (.sl (p0_0.map e57)), .t (.v (.int .i64 p0_1)), .t (.sl (p0_2.map e51)), .row 19, .t (.v (.int .u64 p0_4))]) rfl rfl i33 rfl rfl .tmp .tmp)) ⟨rfl, rfl, rfl, rfl, rfl, rfl, rfl, trivial⟩ rfl <| .cons (.plain rfl (c_assign rfl rfl (by decide) .tmp)) ⟨rfl, trivial⟩ rfl <| .cons (.plain rfl (c_assign rfl rfl (by decide) (.const rfl))) trivial rfl <| .nil) rfl rfl ?_
    show AW _ _ _ _ _
    refine aw_goes (σ' := [(.tmp 4, .m (.one (.ptr 4 0))), (.tmp 5, .m (.one (.t (.v (.int .i64 v6))))), (.tmp 6, .m (.one (.t (.v (.int .i64 3))))), (.cell 4 0, .c (.t (.sl (p0_0.map e57)))), (.cell 4 1, .c (.t (.v (.int .i64 p0_1)))), (.cell 4 2, .c (.t (.sl (p0_2.map e51)))), (.cell 4 3, .c (.t (.sl ((set_ v2 p1 v4).map e42)))), (.cell 4 4, .c (.t (.v (.int .u64 p0_4))))]) (Goes.trans (Goes.freezeRow (n := 19) rfl) (Goes.into [(4, 4)] ⟨rfl, rfl, .refl, .refl, .refl, .refl, .refl, .refl, .refl, .refl, trivial⟩)) ?_
    refine aw_ret ?_
    obtain rfl := Option.some.inj h
    exact ⟨.inr rfl, _, [], (.cellAgg (cs := [.t (.sl (p0_0.map e57)), .t (.v (.int .i64 p0_1)), .t (.sl (p0_2.map e51)), .t (.sl ((set_ v2 p1 v4).map e42)), .t (.v (.int .u64 p0_4))]) rfl Try.isAgg33 i33 rfl ⟨rfl, rfl, rfl, rfl, rfl, trivial⟩ (.tmp rfl (.tmp rfl .nil))), rfl, rfl, rfl, ⟨rfl, rfl, trivial⟩⟩

def find_Local_2 (c0_0 : List (Int × Int)) (c0_1 : Int) (c0_2 : List (Int × (List (Int)))) (c0_3 : List ((List (Int)))) (c0_4 : Int) (c1 : Int) : Option (((List (Int × Int)) × Int × (List (Int × (List (Int)))) × (List ((List (Int)))) × Int × Int × Int)) := (find_row c0_0 c0_1 c0_2 c0_3 c0_4 c1).bind fun v1 => some ((v1.1, v1.2.1, v1.2.2.1, v1.2.2.2.1, v1.2.2.2.2.1, v1.2.2.2.2.2.1, v1.2.2.2.2.2.2))
theorem find_Local_2_calls (c0_0 : List (Int × Int)) (c0_1 : Int) (c0_2 : List (Int × (List (Int)))) (c0_3 : List ((List (Int)))) (c0_4 : Int) (c1 : Int) (r : ((List (Int × Int)) × Int × (List (Int × (List (Int)))) × (List ((List (Int)))) × Int × Int × Int)) (h : find_Local_2 c0_0 c0_1 c0_2 c0_3 c0_4 c1 = some r) : ACalls Try.prog 62 [.one (.tptr [.sl (c0_0.map e57), .v (.int .i64 c0_1), .sl (c0_2.map e51), .sl (c0_3.map e42), .v (.int .u64 c0_4)] 0), .one (.tptr [.v (.int .i64 c1)] 0)] [] (.tup [(true, [.t (.sl (r.1.map e57)), .t (.v (.int .i64 r.2.1)), .t (.sl (r.2.2.1.map e51)), .t (.sl (r.2.2.2.1.map e42)), .t (.v (.int .u64 r.2.2.2.2.1))]), (false, [.t (.v (.int .i64 r.2.2.2.2.2.1))]), (false, [.t (.v (.int .i64 r.2.2.2.2.2.2))])]) [] := by
  unfold find_Local_2 at h
  refine acalls_of_AW Try.func62 rfl Try.call62 (by decide) (show 2 ≤ 11 by decide) rfl rfl ?_
  refine aw_seq ?_
  refine aw_region (.cons (.plain rfl (c_alloc rfl rfl (by decide) i33 rfl rfl rfl)) trivial rfl <| .cons (.plain rfl (c_assign rfl rfl (by decide) (.const rfl))) trivial rfl <| .cons (.plain rfl (c_assign rfl rfl (by decide) (.const rfl))) trivial rfl <| .nil) ?_
  show AW _ _ _ _ _
  refine aw_seq ?_
  obtain ⟨v1, hv1, h⟩ := bind_some h
  refine aw_region (.cons (.plain rfl (c_loadTrees (cs := [.sl (c0_0.map e57), .v (.int .i64 c0_1), .sl (c0_2.map e51), .sl (c0_3.map e42), .v (.int .u64 c0_4)]) rfl rfl (by decide) Try.isAgg33 i33 rfl (show 0 + 5 ≤ 5 by decide) .tmp)) ⟨rfl, trivial⟩ rfl <| .cons (.plain rfl (c_loadTree rfl rfl (by decide) Try.isAgg3 .tmp rfl)) ⟨rfl, trivial⟩ rfl <| .cons (.plain rfl (c_call (ins := [.agg [.t (.sl (c0_0.map e57)), .t (.v (.int .i64 c0_1)), .t (.sl (c0_2.map e51)), .t (.sl (c0_3.map e42)), .t (.v (.int .u64 c0_4))], .one (.t (.v (.int .i64 c1)))]) (caps := []) rfl rfl rfl (by decide) .clo (find_row_calls _ _ _ _ _ _ _ hv1) (.cons .tmp (.cons .tmp .nil)) rfl rfl)) ⟨rfl, rfl, trivial⟩ rfl <| .cons (.plain rfl (c_extract rfl rfl (by decide) .tmp rfl rfl)) ⟨rfl, trivial⟩ rfl <| .cons (.plain rfl (c_extract rfl rfl (by decide) .tmp rfl rfl)) ⟨rfl, trivial⟩ rfl <| .cons (.plain rfl (c_extract rfl rfl (by decide) .tmp rfl rfl)) ⟨rfl, trivial⟩ rfl <| .cons (.plain rfl (c_storeBox (cs0 := [.t (.v (.slice none 0 0)), .t (.v (.int .i64 0)), .t (.v (.slice none 0 0)), .t (.v (.slice none 0 0)), .t (.v (.int .u64 0))]) (cs := [.t (.sl (v1.1.map e57)), .t (.v (.int .i64 v1.2.1)), .t (.sl (v1.2.2.1.map e51)), .t (.sl (v1.2.2.2.1.map e42)), .t (.v (.int .u64 v1.2.2.2.2.1))]) rfl rfl i33 rfl rfl .tmp .tmp)) ⟨rfl, rfl, rfl, rfl, rfl, rfl, rfl, trivial⟩ rfl <| .cons (.plain rfl (c_assign rfl rfl (by decide) .tmp)) ⟨rfl, trivial⟩ rfl <| .cons (.plain rfl (c_assign rfl rfl (by decide) .tmp)) ⟨rfl, trivial⟩ rfl <| .nil) ?_
  show AW _ _ _ _ _
  refine aw_goes (σ' := [(.tmp 2, .m (.one (.ptr 2 0))), (.tmp 3, .m (.one (.t (.v (.int .i64 v1.2.2.2.2.2.1))))), (.tmp 4, .m (.one (.t (.v (.int .i64 v1.2.2.2.2.2.2))))), (.cell 2 0, .c (.t (.sl (v1.1.map e57)))), (.cell 2 1, .c (.t (.v (.int .i64 v1.2.1)))), (.cell 2 2, .c (.t (.sl (v1.2.2.1.map e51)))), (.cell 2 3, .c (.t (.sl (v1.2.2.2.1.map e42)))), (.cell 2 4, .c (.t (.v (.int .u64 v1.2.2.2.2.1))))]) (Goes.into [(2, 2)] ⟨rfl, rfl, .refl, .refl, .refl, .refl, .refl, .refl, .refl, .refl, trivial⟩) ?_
  refine aw_ret ?_
  obtain rfl := Option.some.inj h
  exact ⟨.inr rfl, _, [], (.cellAgg (cs := [.t (.sl (v1.1.map e57)), .t (.v (.int .i64 v1.2.1)), .t (.sl (v1.2.2.1.map e51)), .t (.sl (v1.2.2.2.1.map e42)), .t (.v (.int .u64 v1.2.2.2.2.1))]) rfl Try.isAgg33 i33 rfl ⟨rfl, rfl, rfl, rfl, rfl, trivial⟩ (.tmp rfl (.tmp rfl .nil))), rfl, rfl, rfl, ⟨rfl, rfl, trivial⟩⟩

def find_Turn (p0 : Int) : Option Bool := some (decide (p0.tmod 61 = 0))
end Go.PM
