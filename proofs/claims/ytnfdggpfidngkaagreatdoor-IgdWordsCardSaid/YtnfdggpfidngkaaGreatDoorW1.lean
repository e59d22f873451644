/-
  Reckonings of functions, and their walks (printed).
-/
import Derived.Test.YtnfdggpfidngkaaGreatDoorW0
namespace Go.Ab
open Go.Proofs

/- hearth/hearthref09.Plain -/
def f12 (fu : Nat)  : Option (T_api_Config) :=
  some (⟨(⟨2, 0, 0, 0, 0, 1⟩ : T_api_MAC), (⟨2, 0, 0, 0, 1, 1⟩ : T_api_MAC), (⟨2, 0, 0, 0, 1, 2⟩ : T_api_MAC), 3232235777, 3405803781, 24, 8, 4, 3, 2, ([] : List T_api_Forward), 0, s_00000000_1111_2222_3333⟩ : T_api_Config)
set_option maxRecDepth 100000 in
set_option maxHeartbeats 4000000 in
theorem f12_c {fu : Nat}  {out : T_api_Config} (h : f12 fu = some out) : Pure Tryz.prog GG 12 [] (.agg [.i (.int .u8 out.LanMAC.x_e0), .i (.int .u8 out.LanMAC.x_e1), .i (.int .u8 out.LanMAC.x_e2), .i (.int .u8 out.LanMAC.x_e3), .i (.int .u8 out.LanMAC.x_e4), .i (.int .u8 out.LanMAC.x_e5), .i (.int .u8 out.WanMAC.x_e0), .i (.int .u8 out.WanMAC.x_e1), .i (.int .u8 out.WanMAC.x_e2), .i (.int .u8 out.WanMAC.x_e3), .i (.int .u8 out.WanMAC.x_e4), .i (.int .u8 out.WanMAC.x_e5), .i (.int .u8 out.HopMAC.x_e0), .i (.int .u8 out.HopMAC.x_e1), .i (.int .u8 out.HopMAC.x_e2), .i (.int .u8 out.HopMAC.x_e3), .i (.int .u8 out.HopMAC.x_e4), .i (.int .u8 out.HopMAC.x_e5), .i (.int .u32 out.LanAddr), .i (.int .u32 out.WanAddr), .i (.int .i64 out.LanBits), .i (.int .i64 out.MaxSessions), .i (.int .i64 out.MaxMaps), .i (.int .i64 out.MaxConns), .i (.int .i64 out.MaxSubs), (en_api_Forward.vec out.Forwards), .i (.int .u32 out.DMZ), .i (.str out.UUID)]) := by
  refine Pure.of NoIds.nil (NoId.aggI rfl) (ACall.of_body Tryz.func12 rfl (by kernel_rfl) ?_)
  unfold f12 at h
  refine AWp.seq ?_
  refine AWp.region ?_
  refine AOps.go (op_alloc Z36) rfl rfl rfl ?_
  refine AOps.nil ?_
  refine AWp.seq ?_
  refine AWp.region ?_
  refine AOps.go (op_buildArr AR33 Z33 rfl rfl) rfl rfl rfl ?_
  refine AOps.go (op_buildArr AR33 Z33 rfl rfl) rfl rfl rfl ?_
  refine AOps.go (op_buildArr AR33 Z33 rfl rfl) rfl rfl rfl ?_
  refine AOps.go (op_build PL36 Z36 rfl rfl) rfl rfl rfl ?_
  refine AOps.gn (op_store SZ36 rfl rfl rfl rfl rfl (Nat.le_of_ble_eq_true rfl)) rfl rfl ?_
  refine AOps.fin (st' := ⟨[(0, .p 0 0)], ⟨[(0, [.i (.int .u8 2), .i (.int .u8 0), .i (.int .u8 0), .i (.int .u8 0), .i (.int .u8 0), .i (.int .u8 1), .i (.int .u8 2), .i (.int .u8 0), .i (.int .u8 0), .i (.int .u8 0), .i (.int .u8 1), .i (.int .u8 1), .i (.int .u8 2), .i (.int .u8 0), .i (.int .u8 0), .i (.int .u8 0), .i (.int .u8 1), .i (.int .u8 2), .i (.int .u32 3232235777), .i (.int .u32 3405803781), .i (.int .i64 24), .i (.int .i64 8), .i (.int .i64 4), .i (.int .i64 3), .i (.int .i64 2), .i (.val (.slice none 0 0)), .i (.int .u32 0), .i (.str s_00000000_1111_2222_3333)])], 1, Ext.emp⟩⟩) (Gh.by [] rfl (.cons rfl (.pB rfl) (.nil)) (.cons rfl rfl (.ofI rfl) (.nil))) ?_
  refine AWp.ret ?_
  exact FnQ.retP (Gh.refl _) (RetV.weak (RetV.r1 rfl (.agg A36 rfl rfl (Nat.le_of_ble_eq_true rfl) rfl)) (Weak.agg (.cons (.refl _) (.cons (.refl _) (.cons (.refl _) (.cons (.refl _) (.cons (.refl _) (.cons (.refl _) (.cons (.refl _) (.cons (.refl _) (.cons (.refl _) (.cons (.refl _) (.cons (.refl _) (.cons (.refl _) (.cons (.refl _) (.cons (.refl _) (.cons (.refl _) (.cons (.refl _) (.cons (.refl _) (.cons (.refl _) (.cons (.refl _) (.cons (.refl _) (.cons (.refl _) (.cons (.refl _) (.cons (.refl _) (.cons (.refl _) (.cons (.refl _) (.cons (Weak.nil en_api_Forward.k) (.cons (.refl _) (.cons (.refl _) (.nil))))))))))))))))))))))))))))))) (congrArg (fun (out : T_api_Config) => (.agg [.i (.int .u8 out.LanMAC.x_e0), .i (.int .u8 out.LanMAC.x_e1), .i (.int .u8 out.LanMAC.x_e2), .i (.int .u8 out.LanMAC.x_e3), .i (.int .u8 out.LanMAC.x_e4), .i (.int .u8 out.LanMAC.x_e5), .i (.int .u8 out.WanMAC.x_e0), .i (.int .u8 out.WanMAC.x_e1), .i (.int .u8 out.WanMAC.x_e2), .i (.int .u8 out.WanMAC.x_e3), .i (.int .u8 out.WanMAC.x_e4), .i (.int .u8 out.WanMAC.x_e5), .i (.int .u8 out.HopMAC.x_e0), .i (.int .u8 out.HopMAC.x_e1), .i (.int .u8 out.HopMAC.x_e2), .i (.int .u8 out.HopMAC.x_e3), .i (.int .u8 out.HopMAC.x_e4), .i (.int .u8 out.HopMAC.x_e5), .i (.int .u32 out.LanAddr), .i (.int .u32 out.WanAddr), .i (.int .i64 out.LanBits), .i (.int .i64 out.MaxSessions), .i (.int .i64 out.MaxMaps), .i (.int .i64 out.MaxConns), .i (.int .i64 out.MaxSubs), (en_api_Forward.vec out.Forwards), .i (.int .u32 out.DMZ), .i (.str out.UUID)] : V)) (Option.some.inj h))

/- slices.Clone[[]hearth/api.Forward,hearth/api.Forward] -/
def f75 (fu : Nat) (s : (List T_api_Forward)) : Option ((List T_api_Forward)) :=
  nilq s fun v3_isnil =>
  bif v3_isnil then
    some ([] : List T_api_Forward)
  else
    gd (Nat.ble ((([] : List T_api_Forward).length + s.length) * 12) 140737488355328) <|
    some (([] : List T_api_Forward) ++ s)
set_option maxRecDepth 100000 in
set_option maxHeartbeats 4000000 in
theorem f75_c {fu : Nat} {s : (List T_api_Forward)} {out : (List T_api_Forward)} (h : f75 fu s = some out) : Pure Tryz.prog GG 75 [(en_api_Forward.vec s)] ((en_api_Forward.vec out)) := by
  refine Pure.of (NoIds.cons (NoId.i _) NoIds.nil) (NoId.i _) (ACall.of_body Tryz.func75 rfl (by kernel_rfl) ?_)
  unfold f75 at h
  refine AWp.seq ?_
  refine AWp.region ?_
  refine AOps.go (op_assign rfl) rfl rfl rfl ?_
  refine AOps.nil ?_
  refine AWp.seq ?_
  refine AWp.seq ?_
  refine AWp.region ?_
  refine AOps.go (op_move rfl) rfl rfl rfl ?_
  refine AOps.goK (op_eql_vec_nil U34 rfl rfl) rfl rfl rfl ?_
  rintro _ _ ⟨v3_isnil, rfl, hn_v3_isnil, rfl⟩
  replace h := nilq_some h v3_isnil hn_v3_isnil
  refine AOps.nil ?_
  refine AWp.cond rfl (fun hc4 => ?_) (fun hc4 => ?_)
  · replace h := bif_t hc4 h
    refine AWp.seq ?_
    refine AWp.region ?_
    refine AOps.go (op_assign rfl) rfl rfl rfl ?_
    refine AOps.nil ?_
    refine AWp.ret ?_
    exact FnQ.retP (Gh.refl _) (RetV.weak (RetV.r1 rfl (.tmp rfl)) (Weak.nil en_api_Forward.k)) (congrArg (fun (out : (List T_api_Forward)) => ((en_api_Forward.vec out) : V)) (Option.some.inj h))
  · replace h := bif_f hc4 h
    refine AWp.skip ?_
    refine AWp.seq ?_
    refine AWp.region ?_
    refine AOps.go (op_buildSlice U34 SZ127 Z127 rfl rfl rfl rfl) rfl rfl rfl ?_
    refine AOps.go (op_move rfl) rfl rfl rfl ?_
    obtain ⟨hg5, h⟩ := gd_some h
    refine AOps.go (op_appendE en_api_Forward (l := ([] : List T_api_Forward)) (r := s) rfl AP34_34 rfl rfl rfl rfl (Nat.le_of_ble_eq_true rfl) rfl (SrcV.vec _ _ _) rfl hg5) rfl rfl rfl ?_
    refine AOps.go (op_assign rfl) rfl rfl rfl ?_
    refine AOps.fin (st' := ⟨[(2, .sl 1 0 (([] : List T_api_Forward) ++ s).length 4)], ⟨[(1, (en_api_Forward.cs (([] : List T_api_Forward) ++ s)))], 2, Ext.emp⟩⟩) (Gh.by [] rfl (.cons rfl (.slB rfl rfl) (.nil)) (.cons rfl rfl (.mapIeq rfl) (.nil))) ?_
    refine AWp.ret ?_
    exact FnQ.retP ((Gh.trans (Gh.sealed (t := 2) (es := (([] : List T_api_Forward) ++ s).flatMap en_api_Forward.f) rfl rfl (En.sealLe en_api_Forward (([] : List T_api_Forward) ++ s)) (En.sealEq en_api_Forward (([] : List T_api_Forward) ++ s))) (Gh.refl _))) (RetV.r1 rfl (.tmp rfl)) (congrArg (fun (out : (List T_api_Forward)) => ((en_api_Forward.vec out) : V)) (Option.some.inj h))

/- hearth/conf.Copy -/
def f40 (fu : Nat) (c : T_api_Config) : Option (T_api_Config) :=
  (f75 fu c.Forwards).bind fun v1_r =>
  some (⟨c.LanMAC, c.WanMAC, c.HopMAC, c.LanAddr, c.WanAddr, c.LanBits, c.MaxSessions, c.MaxMaps, c.MaxConns, c.MaxSubs, v1_r, c.DMZ, c.UUID⟩ : T_api_Config)
set_option maxRecDepth 100000 in
set_option maxHeartbeats 4000000 in
theorem f40_c {fu : Nat} {c : T_api_Config} {out : T_api_Config} (h : f40 fu c = some out) : Pure Tryz.prog GG 40 [.agg [.i (.int .u8 c.LanMAC.x_e0), .i (.int .u8 c.LanMAC.x_e1), .i (.int .u8 c.LanMAC.x_e2), .i (.int .u8 c.LanMAC.x_e3), .i (.int .u8 c.LanMAC.x_e4), .i (.int .u8 c.LanMAC.x_e5), .i (.int .u8 c.WanMAC.x_e0), .i (.int .u8 c.WanMAC.x_e1), .i (.int .u8 c.WanMAC.x_e2), .i (.int .u8 c.WanMAC.x_e3), .i (.int .u8 c.WanMAC.x_e4), .i (.int .u8 c.WanMAC.x_e5), .i (.int .u8 c.HopMAC.x_e0), .i (.int .u8 c.HopMAC.x_e1), .i (.int .u8 c.HopMAC.x_e2), .i (.int .u8 c.HopMAC.x_e3), .i (.int .u8 c.HopMAC.x_e4), .i (.int .u8 c.HopMAC.x_e5), .i (.int .u32 c.LanAddr), .i (.int .u32 c.WanAddr), .i (.int .i64 c.LanBits), .i (.int .i64 c.MaxSessions), .i (.int .i64 c.MaxMaps), .i (.int .i64 c.MaxConns), .i (.int .i64 c.MaxSubs), (en_api_Forward.vec c.Forwards), .i (.int .u32 c.DMZ), .i (.str c.UUID)]] (.agg [.i (.int .u8 out.LanMAC.x_e0), .i (.int .u8 out.LanMAC.x_e1), .i (.int .u8 out.LanMAC.x_e2), .i (.int .u8 out.LanMAC.x_e3), .i (.int .u8 out.LanMAC.x_e4), .i (.int .u8 out.LanMAC.x_e5), .i (.int .u8 out.WanMAC.x_e0), .i (.int .u8 out.WanMAC.x_e1), .i (.int .u8 out.WanMAC.x_e2), .i (.int .u8 out.WanMAC.x_e3), .i (.int .u8 out.WanMAC.x_e4), .i (.int .u8 out.WanMAC.x_e5), .i (.int .u8 out.HopMAC.x_e0), .i (.int .u8 out.HopMAC.x_e1), .i (.int .u8 out.HopMAC.x_e2), .i (.int .u8 out.HopMAC.x_e3), .i (.int .u8 out.HopMAC.x_e4), .i (.int .u8 out.HopMAC.x_e5), .i (.int .u32 out.LanAddr), .i (.int .u32 out.WanAddr), .i (.int .i64 out.LanBits), .i (.int .i64 out.MaxSessions), .i (.int .i64 out.MaxMaps), .i (.int .i64 out.MaxConns), .i (.int .i64 out.MaxSubs), (en_api_Forward.vec out.Forwards), .i (.int .u32 out.DMZ), .i (.str out.UUID)]) := by
  refine Pure.of (NoIds.cons (NoId.aggI rfl) NoIds.nil) (NoId.aggI rfl) (ACall.of_body Tryz.func40 rfl (by kernel_rfl) ?_)
  unfold f40 at h
  refine AWp.seq ?_
  refine AWp.region ?_
  refine AOps.go (op_box rfl rfl) rfl rfl rfl ?_
  refine AOps.go (op_alloc Z36) rfl rfl rfl ?_
  refine AOps.nil ?_
  refine AWp.seq ?_
  refine AWp.region ?_
  refine AOps.go (op_fieldAddr_p F36_10 rfl) rfl rfl rfl ?_
  refine AOps.go (op_load_p L34 rfl rfl rfl) rfl rfl rfl ?_
  obtain ⟨v1_r, h_v1_r, h⟩ := bind_some h
  refine AOps.go (op_call Tryz.func75 rfl rfl rfl (f75_c h_v1_r _)) rfl rfl rfl ?_
  refine AOps.go (op_fieldAddr_p F36_10 rfl) rfl rfl rfl ?_
  refine AOps.gn (op_store SZ34 rfl rfl rfl rfl rfl (Nat.le_of_ble_eq_true rfl)) rfl rfl ?_
  refine AOps.fin (st' := ⟨[(1, .p 0 0), (2, .p 1 0)], ⟨[(1, [.i (.int .u8 0), .i (.int .u8 0), .i (.int .u8 0), .i (.int .u8 0), .i (.int .u8 0), .i (.int .u8 0), .i (.int .u8 0), .i (.int .u8 0), .i (.int .u8 0), .i (.int .u8 0), .i (.int .u8 0), .i (.int .u8 0), .i (.int .u8 0), .i (.int .u8 0), .i (.int .u8 0), .i (.int .u8 0), .i (.int .u8 0), .i (.int .u8 0), .i (.int .u32 0), .i (.int .u32 0), .i (.int .i64 0), .i (.int .i64 0), .i (.int .i64 0), .i (.int .i64 0), .i (.int .i64 0), .i (.val (.slice none 0 0)), .i (.int .u32 0), .i (.str [])]), (0, [.i (.int .u8 c.LanMAC.x_e0), .i (.int .u8 c.LanMAC.x_e1), .i (.int .u8 c.LanMAC.x_e2), .i (.int .u8 c.LanMAC.x_e3), .i (.int .u8 c.LanMAC.x_e4), .i (.int .u8 c.LanMAC.x_e5), .i (.int .u8 c.WanMAC.x_e0), .i (.int .u8 c.WanMAC.x_e1), .i (.int .u8 c.WanMAC.x_e2), .i (.int .u8 c.WanMAC.x_e3), .i (.int .u8 c.WanMAC.x_e4), .i (.int .u8 c.WanMAC.x_e5), .i (.int .u8 c.HopMAC.x_e0), .i (.int .u8 c.HopMAC.x_e1), .i (.int .u8 c.HopMAC.x_e2), .i (.int .u8 c.HopMAC.x_e3), .i (.int .u8 c.HopMAC.x_e4), .i (.int .u8 c.HopMAC.x_e5), .i (.int .u32 c.LanAddr), .i (.int .u32 c.WanAddr), .i (.int .i64 c.LanBits), .i (.int .i64 c.MaxSessions), .i (.int .i64 c.MaxMaps), .i (.int .i64 c.MaxConns), .i (.int .i64 c.MaxSubs), (en_api_Forward.vec v1_r), .i (.int .u32 c.DMZ), .i (.str c.UUID)])], 2, Ext.emp⟩⟩) (Gh.by [] rfl (.cons rfl (.pB rfl) (.cons rfl (.pB rfl) (.nil))) (.cons rfl rfl (.ofI rfl) (.cons rfl rfl (.ofI rfl) (.nil)))) ?_
  refine AWp.seq ?_
  refine AWp.region ?_
  refine AOps.go (op_load_agg_p A36 rfl rfl (Nat.le_of_ble_eq_true rfl) rfl) rfl rfl rfl ?_
  refine AOps.gn (op_store SZ36 rfl rfl rfl rfl rfl (Nat.le_of_ble_eq_true rfl)) rfl rfl ?_
  refine AOps.nil ?_
  refine AWp.ret ?_
  exact FnQ.retP (Gh.refl _) (RetV.r1 rfl (.agg A36 rfl rfl (Nat.le_of_ble_eq_true rfl) rfl)) (congrArg (fun (out : T_api_Config) => (.agg [.i (.int .u8 out.LanMAC.x_e0), .i (.int .u8 out.LanMAC.x_e1), .i (.int .u8 out.LanMAC.x_e2), .i (.int .u8 out.LanMAC.x_e3), .i (.int .u8 out.LanMAC.x_e4), .i (.int .u8 out.LanMAC.x_e5), .i (.int .u8 out.WanMAC.x_e0), .i (.int .u8 out.WanMAC.x_e1), .i (.int .u8 out.WanMAC.x_e2), .i (.int .u8 out.WanMAC.x_e3), .i (.int .u8 out.WanMAC.x_e4), .i (.int .u8 out.WanMAC.x_e5), .i (.int .u8 out.HopMAC.x_e0), .i (.int .u8 out.HopMAC.x_e1), .i (.int .u8 out.HopMAC.x_e2), .i (.int .u8 out.HopMAC.x_e3), .i (.int .u8 out.HopMAC.x_e4), .i (.int .u8 out.HopMAC.x_e5), .i (.int .u32 out.LanAddr), .i (.int .u32 out.WanAddr), .i (.int .i64 out.LanBits), .i (.int .i64 out.MaxSessions), .i (.int .i64 out.MaxMaps), .i (.int .i64 out.MaxConns), .i (.int .i64 out.MaxSubs), (en_api_Forward.vec out.Forwards), .i (.int .u32 out.DMZ), .i (.str out.UUID)] : V)) (Option.some.inj h))

/- hearth/keyed.New[hearth/maps.key,hearth/api.Entry] -/
def f41 (fu : Nat) (most : Int) : Option (Int) :=
  lt (if 0 > most then 0 else most) fun v1_t6 =>
  some v1_t6
set_option maxRecDepth 100000 in
set_option maxHeartbeats 4000000 in
theorem f41_c {fu : Nat} {most : Int} {out : Int} (h : f41 fu most = some out) : ACall Tryz.prog GG 41 [.i (.int .i64 most), .i (.fn (.func 42) [] [])] ⟨[], 0, Ext.emp⟩ (EqK (.p 0 0) ⟨[(0, [.i (.val (.slice none 0 0)), .i (.int .i64 out), .i (.fn (.func 42) [] [])])], 1, Ext.emp⟩) := by
  refine ACall.of_body Tryz.func41 rfl (by kernel_rfl) ?_
  unfold f41 at h
  refine AWp.seq ?_
  refine AWp.region ?_
  refine AOps.go (op_assign rfl) rfl rfl rfl ?_
  refine AOps.nil ?_
  refine AWp.seq ?_
  refine AWp.region ?_
  refine AOps.go (op_move rfl) rfl rfl rfl ?_
  obtain ⟨v1_t6, h_v1_t6, h⟩ := lt_some h
  refine AOps.go (op_max rfl rfl h_v1_t6) rfl rfl rfl ?_
  refine AOps.go (op_move rfl) rfl rfl rfl ?_
  refine AOps.go (op_build PL152 Z152 rfl rfl) rfl rfl rfl ?_
  refine AOps.go (op_box rfl rfl) rfl rfl rfl ?_
  refine AOps.go (op_assign rfl) rfl rfl rfl ?_
  refine AOps.fin (st' := ⟨[(4, .p 0 0)], ⟨[(0, [.i (.val (.slice none 0 0)), .i (.int .i64 v1_t6), .i (.fn (.func 42) [] [])])], 1, Ext.emp⟩⟩) (Gh.by [] rfl (.cons rfl (.pB rfl) (.nil)) (.cons rfl rfl (.ofI rfl) (.nil))) ?_
  refine AWp.ret ?_
  exact FnQ.retE [0] (st' := ⟨[(4, .p 0 0)], ⟨[(0, [.i (.val (.slice none 0 0)), .i (.int .i64 v1_t6), .i (.fn (.func 42) [] [])])], 1, Ext.emp⟩⟩) (Gh.by [0] rfl (.cons rfl (.pB rfl) (.nil)) (.cons rfl rfl (.ofI rfl) (.nil))) (RetV.r1 rfl (.tmp rfl)) (congrArg (fun (out : Int) => (.p 0 0 : V)) (Option.some.inj h)) (congrArg (fun (out : Int) => (⟨[(0, [.i (.val (.slice none 0 0)), .i (.int .i64 out), .i (.fn (.func 42) [] [])])], 1, Ext.emp⟩ : Hs)) (Option.some.inj h))

/- hearth/maps.New -/
def f13 (fu : Nat) (c : T_api_Config) : Option (T_api_Config × Int × Int) :=
  (f40 fu c).bind fun v6_r =>
  (f41 fu c.MaxMaps).bind fun v7_r =>
  some (v6_r, 0, v7_r)
set_option maxRecDepth 100000 in
set_option maxHeartbeats 4000000 in
theorem f13_c {fu : Nat} {c : T_api_Config} {out : T_api_Config × Int × Int} (h : f13 fu c = some out) : ACall Tryz.prog GG 13 [.agg [.i (.int .u8 c.LanMAC.x_e0), .i (.int .u8 c.LanMAC.x_e1), .i (.int .u8 c.LanMAC.x_e2), .i (.int .u8 c.LanMAC.x_e3), .i (.int .u8 c.LanMAC.x_e4), .i (.int .u8 c.LanMAC.x_e5), .i (.int .u8 c.WanMAC.x_e0), .i (.int .u8 c.WanMAC.x_e1), .i (.int .u8 c.WanMAC.x_e2), .i (.int .u8 c.WanMAC.x_e3), .i (.int .u8 c.WanMAC.x_e4), .i (.int .u8 c.WanMAC.x_e5), .i (.int .u8 c.HopMAC.x_e0), .i (.int .u8 c.HopMAC.x_e1), .i (.int .u8 c.HopMAC.x_e2), .i (.int .u8 c.HopMAC.x_e3), .i (.int .u8 c.HopMAC.x_e4), .i (.int .u8 c.HopMAC.x_e5), .i (.int .u32 c.LanAddr), .i (.int .u32 c.WanAddr), .i (.int .i64 c.LanBits), .i (.int .i64 c.MaxSessions), .i (.int .i64 c.MaxMaps), .i (.int .i64 c.MaxConns), .i (.int .i64 c.MaxSubs), (en_api_Forward.vec c.Forwards), .i (.int .u32 c.DMZ), .i (.str c.UUID)]] ⟨[], 0, Ext.emp⟩ (EqK (.p 0 0) ⟨[(0, [.i (.int .u8 out.1.LanMAC.x_e0), .i (.int .u8 out.1.LanMAC.x_e1), .i (.int .u8 out.1.LanMAC.x_e2), .i (.int .u8 out.1.LanMAC.x_e3), .i (.int .u8 out.1.LanMAC.x_e4), .i (.int .u8 out.1.LanMAC.x_e5), .i (.int .u8 out.1.WanMAC.x_e0), .i (.int .u8 out.1.WanMAC.x_e1), .i (.int .u8 out.1.WanMAC.x_e2), .i (.int .u8 out.1.WanMAC.x_e3), .i (.int .u8 out.1.WanMAC.x_e4), .i (.int .u8 out.1.WanMAC.x_e5), .i (.int .u8 out.1.HopMAC.x_e0), .i (.int .u8 out.1.HopMAC.x_e1), .i (.int .u8 out.1.HopMAC.x_e2), .i (.int .u8 out.1.HopMAC.x_e3), .i (.int .u8 out.1.HopMAC.x_e4), .i (.int .u8 out.1.HopMAC.x_e5), .i (.int .u32 out.1.LanAddr), .i (.int .u32 out.1.WanAddr), .i (.int .i64 out.1.LanBits), .i (.int .i64 out.1.MaxSessions), .i (.int .i64 out.1.MaxMaps), .i (.int .i64 out.1.MaxConns), .i (.int .i64 out.1.MaxSubs), (en_api_Forward.vec out.1.Forwards), .i (.int .u32 out.1.DMZ), .i (.str out.1.UUID), .p 1 0, .i (.int .u32 out.2.1)]), (1, [.i (.val (.slice none 0 0)), .i (.int .i64 out.2.2), .i (.fn (.func 42) [] [])])], 2, Ext.emp⟩) := by
  refine ACall.of_body Tryz.func13 rfl (by kernel_rfl) ?_
  unfold f13 at h
  refine AWp.seq ?_
  refine AWp.region ?_
  refine AOps.go (op_box rfl rfl) rfl rfl rfl ?_
  refine AOps.go (op_assign rfl) rfl rfl rfl ?_
  refine AOps.nil ?_
  refine AWp.seq ?_
  obtain ⟨v6_r, h_v6_r, h⟩ := bind_some h
  obtain ⟨v7_r, h_v7_r, h⟩ := bind_some h
  refine AWp.drawnG (st' := ⟨[(2, .p 2 0)], ⟨[(2, [.i (.int .u8 v6_r.LanMAC.x_e0), .i (.int .u8 v6_r.LanMAC.x_e1), .i (.int .u8 v6_r.LanMAC.x_e2), .i (.int .u8 v6_r.LanMAC.x_e3), .i (.int .u8 v6_r.LanMAC.x_e4), .i (.int .u8 v6_r.LanMAC.x_e5), .i (.int .u8 v6_r.WanMAC.x_e0), .i (.int .u8 v6_r.WanMAC.x_e1), .i (.int .u8 v6_r.WanMAC.x_e2), .i (.int .u8 v6_r.WanMAC.x_e3), .i (.int .u8 v6_r.WanMAC.x_e4), .i (.int .u8 v6_r.WanMAC.x_e5), .i (.int .u8 v6_r.HopMAC.x_e0), .i (.int .u8 v6_r.HopMAC.x_e1), .i (.int .u8 v6_r.HopMAC.x_e2), .i (.int .u8 v6_r.HopMAC.x_e3), .i (.int .u8 v6_r.HopMAC.x_e4), .i (.int .u8 v6_r.HopMAC.x_e5), .i (.int .u32 v6_r.LanAddr), .i (.int .u32 v6_r.WanAddr), .i (.int .i64 v6_r.LanBits), .i (.int .i64 v6_r.MaxSessions), .i (.int .i64 v6_r.MaxMaps), .i (.int .i64 v6_r.MaxConns), .i (.int .i64 v6_r.MaxSubs), (en_api_Forward.vec v6_r.Forwards), .i (.int .u32 v6_r.DMZ), .i (.str v6_r.UUID), .p 1 0, .i (.int .u32 0)]), (1, [.i (.val (.slice none 0 0)), .i (.int .i64 v7_r), .i (.fn (.func 42) [] [])])], 3, Ext.emp⟩⟩) (fun k => match k with | 0 => (⟨[(0, [.i (.int .u8 c.LanMAC.x_e0), .i (.int .u8 c.LanMAC.x_e1), .i (.int .u8 c.LanMAC.x_e2), .i (.int .u8 c.LanMAC.x_e3), .i (.int .u8 c.LanMAC.x_e4), .i (.int .u8 c.LanMAC.x_e5), .i (.int .u8 c.WanMAC.x_e0), .i (.int .u8 c.WanMAC.x_e1), .i (.int .u8 c.WanMAC.x_e2), .i (.int .u8 c.WanMAC.x_e3), .i (.int .u8 c.WanMAC.x_e4), .i (.int .u8 c.WanMAC.x_e5), .i (.int .u8 c.HopMAC.x_e0), .i (.int .u8 c.HopMAC.x_e1), .i (.int .u8 c.HopMAC.x_e2), .i (.int .u8 c.HopMAC.x_e3), .i (.int .u8 c.HopMAC.x_e4), .i (.int .u8 c.HopMAC.x_e5), .i (.int .u32 c.LanAddr), .i (.int .u32 c.WanAddr), .i (.int .i64 c.LanBits), .i (.int .i64 c.MaxSessions), .i (.int .i64 c.MaxMaps), .i (.int .i64 c.MaxConns), .i (.int .i64 c.MaxSubs), (en_api_Forward.vec c.Forwards), .i (.int .u32 c.DMZ), .i (.str c.UUID)])], 1, Ext.emp⟩ : Hs) | 1 => (⟨[(1, [.i (.val (.slice none 0 0)), .i (.int .i64 v7_r), .i (.fn (.func 42) [] [])]), (0, [.i (.int .u8 c.LanMAC.x_e0), .i (.int .u8 c.LanMAC.x_e1), .i (.int .u8 c.LanMAC.x_e2), .i (.int .u8 c.LanMAC.x_e3), .i (.int .u8 c.LanMAC.x_e4), .i (.int .u8 c.LanMAC.x_e5), .i (.int .u8 c.WanMAC.x_e0), .i (.int .u8 c.WanMAC.x_e1), .i (.int .u8 c.WanMAC.x_e2), .i (.int .u8 c.WanMAC.x_e3), .i (.int .u8 c.WanMAC.x_e4), .i (.int .u8 c.WanMAC.x_e5), .i (.int .u8 c.HopMAC.x_e0), .i (.int .u8 c.HopMAC.x_e1), .i (.int .u8 c.HopMAC.x_e2), .i (.int .u8 c.HopMAC.x_e3), .i (.int .u8 c.HopMAC.x_e4), .i (.int .u8 c.HopMAC.x_e5), .i (.int .u32 c.LanAddr), .i (.int .u32 c.WanAddr), .i (.int .i64 c.LanBits), .i (.int .i64 c.MaxSessions), .i (.int .i64 c.MaxMaps), .i (.int .i64 c.MaxConns), .i (.int .i64 c.MaxSubs), (en_api_Forward.vec c.Forwards), .i (.int .u32 c.DMZ), .i (.str c.UUID)])], 2, Ext.emp⟩ : Hs) | _ => (⟨[(2, [.i (.int .u8 v6_r.LanMAC.x_e0), .i (.int .u8 v6_r.LanMAC.x_e1), .i (.int .u8 v6_r.LanMAC.x_e2), .i (.int .u8 v6_r.LanMAC.x_e3), .i (.int .u8 v6_r.LanMAC.x_e4), .i (.int .u8 v6_r.LanMAC.x_e5), .i (.int .u8 v6_r.WanMAC.x_e0), .i (.int .u8 v6_r.WanMAC.x_e1), .i (.int .u8 v6_r.WanMAC.x_e2), .i (.int .u8 v6_r.WanMAC.x_e3), .i (.int .u8 v6_r.WanMAC.x_e4), .i (.int .u8 v6_r.WanMAC.x_e5), .i (.int .u8 v6_r.HopMAC.x_e0), .i (.int .u8 v6_r.HopMAC.x_e1), .i (.int .u8 v6_r.HopMAC.x_e2), .i (.int .u8 v6_r.HopMAC.x_e3), .i (.int .u8 v6_r.HopMAC.x_e4), .i (.int .u8 v6_r.HopMAC.x_e5), .i (.int .u32 v6_r.LanAddr), .i (.int .u32 v6_r.WanAddr), .i (.int .i64 v6_r.LanBits), .i (.int .i64 v6_r.MaxSessions), .i (.int .i64 v6_r.MaxMaps), .i (.int .i64 v6_r.MaxConns), .i (.int .i64 v6_r.MaxSubs), (en_api_Forward.vec v6_r.Forwards), .i (.int .u32 v6_r.DMZ), .i (.str v6_r.UUID), .p 1 0, .i (.int .u32 0)]), (1, [.i (.val (.slice none 0 0)), .i (.int .i64 v7_r), .i (.fn (.func 42) [] [])]), (0, [.i (.int .u8 c.LanMAC.x_e0), .i (.int .u8 c.LanMAC.x_e1), .i (.int .u8 c.LanMAC.x_e2), .i (.int .u8 c.LanMAC.x_e3), .i (.int .u8 c.LanMAC.x_e4), .i (.int .u8 c.LanMAC.x_e5), .i (.int .u8 c.WanMAC.x_e0), .i (.int .u8 c.WanMAC.x_e1), .i (.int .u8 c.WanMAC.x_e2), .i (.int .u8 c.WanMAC.x_e3), .i (.int .u8 c.WanMAC.x_e4), .i (.int .u8 c.WanMAC.x_e5), .i (.int .u8 c.HopMAC.x_e0), .i (.int .u8 c.HopMAC.x_e1), .i (.int .u8 c.HopMAC.x_e2), .i (.int .u8 c.HopMAC.x_e3), .i (.int .u8 c.HopMAC.x_e4), .i (.int .u8 c.HopMAC.x_e5), .i (.int .u32 c.LanAddr), .i (.int .u32 c.WanAddr), .i (.int .i64 c.LanBits), .i (.int .i64 c.MaxSessions), .i (.int .i64 c.MaxMaps), .i (.int .i64 c.MaxConns), .i (.int .i64 c.MaxSubs), (en_api_Forward.vec c.Forwards), .i (.int .u32 c.DMZ), .i (.str c.UUID)])], 3, Ext.emp⟩ : Hs)) 2 rfl rfl (.heapS 0 ⟨op_load_agg_p A36 rfl rfl (Nat.le_of_ble_eq_true rfl) rfl, op_load_agg_p A36 rfl rfl (Nat.le_of_ble_eq_true rfl) rfl, op_load_agg_p A36 rfl rfl (Nat.le_of_ble_eq_true rfl) rfl, trivial⟩ rfl rfl (.pure (fun s => op_call Tryz.func40 rfl rfl rfl (f40_c h_v6_r _)) rfl rfl (.pure (fun s => op_fieldAddr_p F36_7 rfl) rfl rfl (.heapS 0 ⟨op_load_p L3 rfl rfl rfl, op_load_p L3 rfl rfl rfl, op_load_p L3 rfl rfl rfl, trivial⟩ rfl rfl (.wr (LOp.is (op_call Tryz.func41 rfl rfl rfl (CallOK.is (w := .p 1 0) (s2 := ⟨[(1, [.i (.val (.slice none 0 0)), .i (.int .i64 v7_r), .i (.fn (.func 42) [] [])]), (0, [.i (.int .u8 c.LanMAC.x_e0), .i (.int .u8 c.LanMAC.x_e1), .i (.int .u8 c.LanMAC.x_e2), .i (.int .u8 c.LanMAC.x_e3), .i (.int .u8 c.LanMAC.x_e4), .i (.int .u8 c.LanMAC.x_e5), .i (.int .u8 c.WanMAC.x_e0), .i (.int .u8 c.WanMAC.x_e1), .i (.int .u8 c.WanMAC.x_e2), .i (.int .u8 c.WanMAC.x_e3), .i (.int .u8 c.WanMAC.x_e4), .i (.int .u8 c.WanMAC.x_e5), .i (.int .u8 c.HopMAC.x_e0), .i (.int .u8 c.HopMAC.x_e1), .i (.int .u8 c.HopMAC.x_e2), .i (.int .u8 c.HopMAC.x_e3), .i (.int .u8 c.HopMAC.x_e4), .i (.int .u8 c.HopMAC.x_e5), .i (.int .u32 c.LanAddr), .i (.int .u32 c.WanAddr), .i (.int .i64 c.LanBits), .i (.int .i64 c.MaxSessions), .i (.int .i64 c.MaxMaps), .i (.int .i64 c.MaxConns), .i (.int .i64 c.MaxSubs), (en_api_Forward.vec c.Forwards), .i (.int .u32 c.DMZ), .i (.str c.UUID)])], 2, Ext.emp⟩) (CallOK.by [] (f41_c h_v7_r) rfl (.cons (.i _) (.cons (.i _) (.nil _ _))) (.nil) (.p _ _ (Nat.le_of_ble_eq_true rfl)) (.cons (Nat.le_of_ble_eq_true rfl) (.ofI rfl) (.nil))) rfl rfl)) rfl rfl) rfl rfl (.pure (fun s => op_build PL105 Z105 rfl rfl) rfl rfl (.wr (LOp.is (op_box rfl rfl) rfl rfl) rfl rfl (.pure (fun s => op_assign rfl) rfl rfl (.nil _ _))))))))) (by kernel_rfl) ?_ ?_
  · exact Gh.by [] rfl (.cons rfl (.pB rfl) (.nil)) (.cons rfl rfl (.cons (.i _) (.cons (.i _) (.cons (.i _) (.cons (.i _) (.cons (.i _) (.cons (.i _) (.cons (.i _) (.cons (.i _) (.cons (.i _) (.cons (.i _) (.cons (.i _) (.cons (.i _) (.cons (.i _) (.cons (.i _) (.cons (.i _) (.cons (.i _) (.cons (.i _) (.cons (.i _) (.cons (.i _) (.cons (.i _) (.cons (.i _) (.cons (.i _) (.cons (.i _) (.cons (.i _) (.cons (.i _) (.cons (.i _) (.cons (.i _) (.cons (.i _) (.cons (.pB rfl) (.cons (.i _) (.nil _ _))))))))))))))))))))))))))))))) (.cons rfl rfl (.ofI rfl) (.nil)))
  refine AWp.ret ?_
  exact FnQ.retE [0, 1] (st' := ⟨[(2, .p 0 0)], ⟨[(0, [.i (.int .u8 v6_r.LanMAC.x_e0), .i (.int .u8 v6_r.LanMAC.x_e1), .i (.int .u8 v6_r.LanMAC.x_e2), .i (.int .u8 v6_r.LanMAC.x_e3), .i (.int .u8 v6_r.LanMAC.x_e4), .i (.int .u8 v6_r.LanMAC.x_e5), .i (.int .u8 v6_r.WanMAC.x_e0), .i (.int .u8 v6_r.WanMAC.x_e1), .i (.int .u8 v6_r.WanMAC.x_e2), .i (.int .u8 v6_r.WanMAC.x_e3), .i (.int .u8 v6_r.WanMAC.x_e4), .i (.int .u8 v6_r.WanMAC.x_e5), .i (.int .u8 v6_r.HopMAC.x_e0), .i (.int .u8 v6_r.HopMAC.x_e1), .i (.int .u8 v6_r.HopMAC.x_e2), .i (.int .u8 v6_r.HopMAC.x_e3), .i (.int .u8 v6_r.HopMAC.x_e4), .i (.int .u8 v6_r.HopMAC.x_e5), .i (.int .u32 v6_r.LanAddr), .i (.int .u32 v6_r.WanAddr), .i (.int .i64 v6_r.LanBits), .i (.int .i64 v6_r.MaxSessions), .i (.int .i64 v6_r.MaxMaps), .i (.int .i64 v6_r.MaxConns), .i (.int .i64 v6_r.MaxSubs), (en_api_Forward.vec v6_r.Forwards), .i (.int .u32 v6_r.DMZ), .i (.str v6_r.UUID), .p 1 0, .i (.int .u32 0)]), (1, [.i (.val (.slice none 0 0)), .i (.int .i64 v7_r), .i (.fn (.func 42) [] [])])], 2, Ext.emp⟩⟩) (Gh.by [2, 1] rfl (.cons rfl (.pB rfl) (.nil)) (.cons rfl rfl (.cons (.i _) (.cons (.i _) (.cons (.i _) (.cons (.i _) (.cons (.i _) (.cons (.i _) (.cons (.i _) (.cons (.i _) (.cons (.i _) (.cons (.i _) (.cons (.i _) (.cons (.i _) (.cons (.i _) (.cons (.i _) (.cons (.i _) (.cons (.i _) (.cons (.i _) (.cons (.i _) (.cons (.i _) (.cons (.i _) (.cons (.i _) (.cons (.i _) (.cons (.i _) (.cons (.i _) (.cons (.i _) (.cons (.i _) (.cons (.i _) (.cons (.i _) (.cons (.pB rfl) (.cons (.i _) (.nil _ _))))))))))))))))))))))))))))))) (.cons rfl rfl (.ofI rfl) (.nil)))) (RetV.r1 rfl (.tmp rfl)) (congrArg (fun (out : T_api_Config × Int × Int) => (.p 0 0 : V)) (Option.some.inj h)) (congrArg (fun (out : T_api_Config × Int × Int) => (⟨[(0, [.i (.int .u8 out.1.LanMAC.x_e0), .i (.int .u8 out.1.LanMAC.x_e1), .i (.int .u8 out.1.LanMAC.x_e2), .i (.int .u8 out.1.LanMAC.x_e3), .i (.int .u8 out.1.LanMAC.x_e4), .i (.int .u8 out.1.LanMAC.x_e5), .i (.int .u8 out.1.WanMAC.x_e0), .i (.int .u8 out.1.WanMAC.x_e1), .i (.int .u8 out.1.WanMAC.x_e2), .i (.int .u8 out.1.WanMAC.x_e3), .i (.int .u8 out.1.WanMAC.x_e4), .i (.int .u8 out.1.WanMAC.x_e5), .i (.int .u8 out.1.HopMAC.x_e0), .i (.int .u8 out.1.HopMAC.x_e1), .i (.int .u8 out.1.HopMAC.x_e2), .i (.int .u8 out.1.HopMAC.x_e3), .i (.int .u8 out.1.HopMAC.x_e4), .i (.int .u8 out.1.HopMAC.x_e5), .i (.int .u32 out.1.LanAddr), .i (.int .u32 out.1.WanAddr), .i (.int .i64 out.1.LanBits), .i (.int .i64 out.1.MaxSessions), .i (.int .i64 out.1.MaxMaps), .i (.int .i64 out.1.MaxConns), .i (.int .i64 out.1.MaxSubs), (en_api_Forward.vec out.1.Forwards), .i (.int .u32 out.1.DMZ), .i (.str out.1.UUID), .p 1 0, .i (.int .u32 out.2.1)]), (1, [.i (.val (.slice none 0 0)), .i (.int .i64 out.2.2), .i (.fn (.func 42) [] [])])], 2, Ext.emp⟩ : Hs)) (Option.some.inj h))

/- hearth/igd.key -/
def f80 (fu : Nat)  : Option ((List Str)) :=
  some [s_NewRemoteHost, s_NewExternalPort, s_NewProtocol]
set_option maxRecDepth 100000 in
set_option maxHeartbeats 4000000 in
theorem f80_c {fu : Nat}  {out : (List Str)} (h : f80 fu = some out) : Pure Tryz.prog GG 80 [] ((en_str.vec out)) := by
  refine Pure.of NoIds.nil (NoId.i _) (ACall.of_body Tryz.func80 rfl (by kernel_rfl) ?_)
  unfold f80 at h
  refine AWp.seq ?_
  refine AWp.region ?_
  refine AOps.go (op_assign rfl) rfl rfl rfl ?_
  refine AOps.nil ?_
  refine AWp.seq ?_
  refine AWp.region ?_
  refine AOps.go (op_buildSliceV (es := [s_NewRemoteHost, s_NewExternalPort, s_NewProtocol].flatMap en_str.f) U26 SZ9 Z9 rfl rfl rfl rfl rfl) rfl rfl rfl ?_
  refine AOps.go (op_assign rfl) rfl rfl rfl ?_
  refine AOps.nil ?_
  refine AWp.ret ?_
  exact FnQ.retP (Gh.refl _) (RetV.r1 rfl (.tmp rfl)) (congrArg (fun (out : (List Str)) => ((en_str.vec out) : V)) (Option.some.inj h))

/- hearth/igd.key -/
def f80_1 (fu : Nat)  : Option ((List Str)) :=
  some [s_NewRemoteHost, s_NewExternalPort, s_NewProtocol]
set_option maxRecDepth 100000 in
set_option maxHeartbeats 4000000 in
theorem f80_1_c {fu : Nat}  {out : (List Str)} (h : f80_1 fu = some out) : ACall Tryz.prog GG 80 [] ⟨[], 0, Ext.emp⟩ (EqK (.sl 0 0 out.length 1) ⟨[(0, (en_str.cs out))], 1, Ext.emp⟩) := by
  refine ACall.of_body Tryz.func80 rfl (by kernel_rfl) ?_
  unfold f80_1 at h
  refine AWp.seq ?_
  refine AWp.region ?_
  refine AOps.go (op_assign rfl) rfl rfl rfl ?_
  refine AOps.nil ?_
  refine AWp.seq ?_
  refine AWp.region ?_
  refine AOps.go (op_buildSlice U26 SZ9 Z9 rfl rfl rfl rfl) rfl rfl rfl ?_
  refine AOps.go (op_assign rfl) rfl rfl rfl ?_
  refine AOps.nil ?_
  refine AWp.ret ?_
  exact FnQ.retE [0] (st' := ⟨[(0, .sl 0 0 3 1)], ⟨[(0, (en_str.cs [s_NewRemoteHost, s_NewExternalPort, s_NewProtocol]))], 1, Ext.emp⟩⟩) (Gh.by [0] rfl (.cons rfl (.slB rfl rfl) (.nil)) (.cons rfl rfl (.mapIeq rfl) (.nil))) (RetV.r1 rfl (.tmp rfl)) (congrArg (fun (out : (List Str)) => (.sl 0 0 out.length 1 : V)) (Option.some.inj h)) (congrArg (fun (out : (List Str)) => (⟨[(0, (en_str.cs out))], 1, Ext.emp⟩ : Hs)) (Option.some.inj h))

/- hearth/igd.whole -/
def f81 (fu : Nat)  : Option ((List Str)) :=
  (f80_1 fu).bind fun v2_r =>
  gd (Nat.ble ((v2_r.length + [s_NewInternalPort, s_NewInternalClient, s_NewEnabled, s_NewPortMappingDescriptio, s_NewLeaseDuration].length) * 16) 140737488355328) <|
  some (v2_r ++ [s_NewInternalPort, s_NewInternalClient, s_NewEnabled, s_NewPortMappingDescriptio, s_NewLeaseDuration])
set_option maxRecDepth 100000 in
set_option maxHeartbeats 4000000 in
theorem f81_c {fu : Nat}  {out : (List Str)} (h : f81 fu = some out) : Pure Tryz.prog GG 81 [] ((en_str.vec out)) := by
  refine Pure.of NoIds.nil (NoId.i _) (ACall.of_body Tryz.func81 rfl (by kernel_rfl) ?_)
  unfold f81 at h
  refine AWp.seq ?_
  refine AWp.region ?_
  refine AOps.go (op_assign rfl) rfl rfl rfl ?_
  refine AOps.nil ?_
  refine AWp.seq ?_
  refine AWp.region ?_
  obtain ⟨v2_r, h_v2_r, h⟩ := bind_some h
  refine AOps.go (op_call Tryz.func80 rfl rfl rfl (CallOK.is (w := .sl 0 0 v2_r.length 1) (s2 := ⟨[(0, (en_str.cs v2_r))], 1, Ext.emp⟩) (CallOK.by [] (f80_1_c h_v2_r) rfl (.nil _ _) (.nil) (.sl _ _ _ _ (Nat.le_of_ble_eq_true rfl)) (.cons (Nat.le_of_ble_eq_true rfl) (.mapIeq rfl) (.nil))) rfl rfl)) rfl rfl rfl ?_
  refine AOps.go (op_buildSliceV (es := [s_NewInternalPort, s_NewInternalClient, s_NewEnabled, s_NewPortMappingDescriptio, s_NewLeaseDuration].flatMap en_str.f) U26 SZ9 Z9 rfl rfl rfl rfl rfl) rfl rfl rfl ?_
  obtain ⟨hg3, h⟩ := gd_some h
  refine AOps.go (op_appendE en_str (l := v2_r) (r := [s_NewInternalPort, s_NewInternalClient, s_NewEnabled, s_NewPortMappingDescriptio, s_NewLeaseDuration]) rfl AP26_26 rfl rfl rfl (En.sealEq en_str v2_r) (En.sealLe en_str v2_r) rfl (SrcV.vec _ _ _) rfl hg3) rfl rfl rfl ?_
  refine AOps.go (op_assign rfl) rfl rfl rfl ?_
  refine AOps.fin (st' := ⟨[(0, .sl 1 0 (v2_r ++ [s_NewInternalPort, s_NewInternalClient, s_NewEnabled, s_NewPortMappingDescriptio, s_NewLeaseDuration]).length 1)], ⟨[(1, (en_str.cs (v2_r ++ [s_NewInternalPort, s_NewInternalClient, s_NewEnabled, s_NewPortMappingDescriptio, s_NewLeaseDuration])))], 2, Ext.emp⟩⟩) (Gh.by [] rfl (.cons rfl (.slB rfl rfl) (.nil)) (.cons rfl rfl (.mapIeq rfl) (.nil))) ?_
  refine AWp.ret ?_
  exact FnQ.retP ((Gh.trans (Gh.sealed (t := 0) (es := (v2_r ++ [s_NewInternalPort, s_NewInternalClient, s_NewEnabled, s_NewPortMappingDescriptio, s_NewLeaseDuration]).flatMap en_str.f) rfl rfl (En.sealLe en_str (v2_r ++ [s_NewInternalPort, s_NewInternalClient, s_NewEnabled, s_NewPortMappingDescriptio, s_NewLeaseDuration])) (En.sealEq en_str (v2_r ++ [s_NewInternalPort, s_NewInternalClient, s_NewEnabled, s_NewPortMappingDescriptio, s_NewLeaseDuration]))) (Gh.refl _))) (RetV.r1 rfl (.tmp rfl)) (congrArg (fun (out : (List Str)) => ((en_str.vec out) : V)) (Option.some.inj h))

/- hearth/igd.span -/
def f82 (fu : Nat) (more : (List Str)) : Option ((List Str)) :=
  gd (Nat.ble (([s_NewStartPort, s_NewEndPort, s_NewProtocol, s_NewManage].length + more.length) * 16) 140737488355328) <|
  some ([s_NewStartPort, s_NewEndPort, s_NewProtocol, s_NewManage] ++ more)
set_option maxRecDepth 100000 in
set_option maxHeartbeats 4000000 in
theorem f82_c {fu : Nat} {more : (List Str)} {out : (List Str)} (h : f82 fu more = some out) : Pure Tryz.prog GG 82 [(en_str.vec more)] ((en_str.vec out)) := by
  refine Pure.of (NoIds.cons (NoId.i _) NoIds.nil) (NoId.i _) (ACall.of_body Tryz.func82 rfl (by kernel_rfl) ?_)
  unfold f82 at h
  refine AWp.seq ?_
  refine AWp.region ?_
  refine AOps.go (op_assign rfl) rfl rfl rfl ?_
  refine AOps.nil ?_
  refine AWp.seq ?_
  refine AWp.region ?_
  refine AOps.go (op_buildSlice U26 SZ9 Z9 rfl rfl rfl rfl) rfl rfl rfl ?_
  refine AOps.go (op_move rfl) rfl rfl rfl ?_
  obtain ⟨hg2, h⟩ := gd_some h
  refine AOps.go (op_appendE en_str (l := [s_NewStartPort, s_NewEndPort, s_NewProtocol, s_NewManage]) (r := more) rfl AP26_26 rfl rfl rfl rfl (Nat.le_of_ble_eq_true rfl) rfl (SrcV.vec _ _ _) rfl hg2) rfl rfl rfl ?_
  refine AOps.go (op_assign rfl) rfl rfl rfl ?_
  refine AOps.fin (st' := ⟨[(2, .sl 1 0 ([s_NewStartPort, s_NewEndPort, s_NewProtocol, s_NewManage] ++ more).length 1)], ⟨[(1, (en_str.cs ([s_NewStartPort, s_NewEndPort, s_NewProtocol, s_NewManage] ++ more)))], 2, Ext.emp⟩⟩) (Gh.by [] rfl (.cons rfl (.slB rfl rfl) (.nil)) (.cons rfl rfl (.mapIeq rfl) (.nil))) ?_
  refine AWp.ret ?_
  exact FnQ.retP ((Gh.trans (Gh.sealed (t := 2) (es := ([s_NewStartPort, s_NewEndPort, s_NewProtocol, s_NewManage] ++ more).flatMap en_str.f) rfl rfl (En.sealLe en_str ([s_NewStartPort, s_NewEndPort, s_NewProtocol, s_NewManage] ++ more)) (En.sealEq en_str ([s_NewStartPort, s_NewEndPort, s_NewProtocol, s_NewManage] ++ more))) (Gh.refl _))) (RetV.r1 rfl (.tmp rfl)) (congrArg (fun (out : (List Str)) => ((en_str.vec out) : V)) (Option.some.inj h))

/- hearth/igd.span -/
def f82_1 (fu : Nat) (more : (List Str)) : Option ((List Str)) :=
  gd (Nat.ble (([s_NewStartPort, s_NewEndPort, s_NewProtocol, s_NewManage].length + more.length) * 16) 140737488355328) <|
  some ([s_NewStartPort, s_NewEndPort, s_NewProtocol, s_NewManage] ++ more)
set_option maxRecDepth 100000 in
set_option maxHeartbeats 4000000 in
theorem f82_1_c {fu : Nat} {more : (List Str)} {out : (List Str)} (h : f82_1 fu more = some out) : Pure Tryz.prog GG 82 [(en_str.vec more)] ((en_str.vec out)) := by
  refine Pure.of (NoIds.cons (NoId.i _) NoIds.nil) (NoId.i _) (ACall.of_body Tryz.func82 rfl (by kernel_rfl) ?_)
  unfold f82_1 at h
  refine AWp.seq ?_
  refine AWp.region ?_
  refine AOps.go (op_assign rfl) rfl rfl rfl ?_
  refine AOps.nil ?_
  refine AWp.seq ?_
  refine AWp.region ?_
  refine AOps.go (op_buildSlice U26 SZ9 Z9 rfl rfl rfl rfl) rfl rfl rfl ?_
  refine AOps.go (op_move rfl) rfl rfl rfl ?_
  obtain ⟨hg2, h⟩ := gd_some h
  refine AOps.go (op_appendE en_str (l := [s_NewStartPort, s_NewEndPort, s_NewProtocol, s_NewManage]) (r := more) rfl AP26_26 rfl rfl rfl rfl (Nat.le_of_ble_eq_true rfl) rfl (SrcV.vec _ _ _) rfl hg2) rfl rfl rfl ?_
  refine AOps.go (op_assign rfl) rfl rfl rfl ?_
  refine AOps.fin (st' := ⟨[(2, .sl 1 0 ([s_NewStartPort, s_NewEndPort, s_NewProtocol, s_NewManage] ++ more).length 1)], ⟨[(1, (en_str.cs ([s_NewStartPort, s_NewEndPort, s_NewProtocol, s_NewManage] ++ more)))], 2, Ext.emp⟩⟩) (Gh.by [] rfl (.cons rfl (.slB rfl rfl) (.nil)) (.cons rfl rfl (.mapIeq rfl) (.nil))) ?_
  refine AWp.ret ?_
  exact FnQ.retP ((Gh.trans (Gh.sealed (t := 2) (es := ([s_NewStartPort, s_NewEndPort, s_NewProtocol, s_NewManage] ++ more).flatMap en_str.f) rfl rfl (En.sealLe en_str ([s_NewStartPort, s_NewEndPort, s_NewProtocol, s_NewManage] ++ more)) (En.sealEq en_str ([s_NewStartPort, s_NewEndPort, s_NewProtocol, s_NewManage] ++ more))) (Gh.refl _))) (RetV.r1 rfl (.tmp rfl)) (congrArg (fun (out : (List Str)) => ((en_str.vec out) : V)) (Option.some.inj h))

/- hearth/igd.actions -/
def f43 (fu : Nat)  : Option ((List T_igd_action)) :=
  (f80 fu).bind fun v6_r =>
  (f81 fu).bind fun v7_r =>
  (f81 fu).bind fun v8_r =>
  (f80 fu).bind fun v9_r =>
  (f82 fu ([] : List Str)).bind fun v10_r =>
  (f82_1 fu [s_NewNumberOfPorts]).bind fun v11_r =>
  some [(⟨s_SetConnectionType, [s_NewConnectionType]⟩ : T_igd_action), (⟨s_GetConnectionTypeInfo, ([] : List Str)⟩ : T_igd_action), (⟨s_RequestConnection, ([] : List Str)⟩ : T_igd_action), (⟨s_RequestTermination, ([] : List Str)⟩ : T_igd_action), (⟨s_ForceTermination, ([] : List Str)⟩ : T_igd_action), (⟨s_GetStatusInfo, ([] : List Str)⟩ : T_igd_action), (⟨s_GetNATRSIPStatus, ([] : List Str)⟩ : T_igd_action), (⟨s_GetExternalIPAddress, ([] : List Str)⟩ : T_igd_action), (⟨s_GetGenericPortMappingEnt, [s_NewPortMappingIndex]⟩ : T_igd_action), (⟨s_GetSpecificPortMappingEn, v6_r⟩ : T_igd_action), (⟨s_AddPortMapping, v7_r⟩ : T_igd_action), (⟨s_AddAnyPortMapping, v8_r⟩ : T_igd_action), (⟨s_DeletePortMapping, v9_r⟩ : T_igd_action), (⟨s_DeletePortMappingRange, v10_r⟩ : T_igd_action), (⟨s_GetListOfPortMappings, v11_r⟩ : T_igd_action)]
set_option maxRecDepth 100000 in
set_option maxHeartbeats 4000000 in
theorem f43_c {fu : Nat}  {out : (List T_igd_action)} (h : f43 fu = some out) : Pure Tryz.prog GG 43 [] ((en_igd_action.vec out)) := by
  refine Pure.of NoIds.nil (NoId.i _) (ACall.of_body Tryz.func43 rfl (by kernel_rfl) ?_)
  unfold f43 at h
  refine AWp.seq ?_
  refine AWp.region ?_
  refine AOps.go (op_assign rfl) rfl rfl rfl ?_
  refine AOps.nil ?_
  refine AWp.seq ?_
  refine AWp.region ?_
  refine AOps.go (op_buildSliceV (es := [s_NewConnectionType].flatMap en_str.f) U26 SZ9 Z9 rfl rfl rfl rfl rfl) rfl rfl rfl ?_
  refine AOps.go (op_build PL109 Z109 rfl rfl) rfl rfl rfl ?_
  refine AOps.go (op_build PL109 Z109 rfl rfl) rfl rfl rfl ?_
  refine AOps.go (op_build PL109 Z109 rfl rfl) rfl rfl rfl ?_
  refine AOps.go (op_build PL109 Z109 rfl rfl) rfl rfl rfl ?_
  refine AOps.go (op_build PL109 Z109 rfl rfl) rfl rfl rfl ?_
  refine AOps.go (op_build PL109 Z109 rfl rfl) rfl rfl rfl ?_
  refine AOps.go (op_build PL109 Z109 rfl rfl) rfl rfl rfl ?_
  refine AOps.go (op_build PL109 Z109 rfl rfl) rfl rfl rfl ?_
  refine AOps.go (op_buildSliceV (es := [s_NewPortMappingIndex].flatMap en_str.f) U26 SZ9 Z9 rfl rfl rfl rfl rfl) rfl rfl rfl ?_
  refine AOps.go (op_build PL109 Z109 rfl rfl) rfl rfl rfl ?_
  obtain ⟨v6_r, h_v6_r, h⟩ := bind_some h
  refine AOps.go (op_call Tryz.func80 rfl rfl rfl (f80_c h_v6_r _)) rfl rfl rfl ?_
  refine AOps.go (op_build PL109 Z109 rfl rfl) rfl rfl rfl ?_
  obtain ⟨v7_r, h_v7_r, h⟩ := bind_some h
  refine AOps.go (op_call Tryz.func81 rfl rfl rfl (f81_c h_v7_r _)) rfl rfl rfl ?_
  refine AOps.go (op_build PL109 Z109 rfl rfl) rfl rfl rfl ?_
  obtain ⟨v8_r, h_v8_r, h⟩ := bind_some h
  refine AOps.go (op_call Tryz.func81 rfl rfl rfl (f81_c h_v8_r _)) rfl rfl rfl ?_
  refine AOps.go (op_build PL109 Z109 rfl rfl) rfl rfl rfl ?_
  obtain ⟨v9_r, h_v9_r, h⟩ := bind_some h
  refine AOps.go (op_call Tryz.func80 rfl rfl rfl (f80_c h_v9_r _)) rfl rfl rfl ?_
  refine AOps.go (op_build PL109 Z109 rfl rfl) rfl rfl rfl ?_
  obtain ⟨v10_r, h_v10_r, h⟩ := bind_some h
  refine AOps.go (op_call Tryz.func82 rfl rfl rfl (CallOK.weak (.cons (Weak.nil en_str.k) (.nil)) (f82_c h_v10_r _))) rfl rfl rfl ?_
  refine AOps.go (op_build PL109 Z109 rfl rfl) rfl rfl rfl ?_
  refine AOps.go (op_buildSliceV (es := [s_NewNumberOfPorts].flatMap en_str.f) U26 SZ9 Z9 rfl rfl rfl rfl rfl) rfl rfl rfl ?_
  obtain ⟨v11_r, h_v11_r, h⟩ := bind_some h
  refine AOps.go (op_call Tryz.func82 rfl rfl rfl (f82_1_c h_v11_r _)) rfl rfl rfl ?_
  refine AOps.go (op_build PL109 Z109 rfl rfl) rfl rfl rfl ?_
  refine AOps.go (LOp.weak (w := en_igd_action.vec [(⟨s_SetConnectionType, [s_NewConnectionType]⟩ : T_igd_action), (⟨s_GetConnectionTypeInfo, ([] : List Str)⟩ : T_igd_action), (⟨s_RequestConnection, ([] : List Str)⟩ : T_igd_action), (⟨s_RequestTermination, ([] : List Str)⟩ : T_igd_action), (⟨s_ForceTermination, ([] : List Str)⟩ : T_igd_action), (⟨s_GetStatusInfo, ([] : List Str)⟩ : T_igd_action), (⟨s_GetNATRSIPStatus, ([] : List Str)⟩ : T_igd_action), (⟨s_GetExternalIPAddress, ([] : List Str)⟩ : T_igd_action), (⟨s_GetGenericPortMappingEnt, [s_NewPortMappingIndex]⟩ : T_igd_action), (⟨s_GetSpecificPortMappingEn, v6_r⟩ : T_igd_action), (⟨s_AddPortMapping, v7_r⟩ : T_igd_action), (⟨s_AddAnyPortMapping, v8_r⟩ : T_igd_action), (⟨s_DeletePortMapping, v9_r⟩ : T_igd_action), (⟨s_DeletePortMappingRange, v10_r⟩ : T_igd_action), (⟨s_GetListOfPortMappings, v11_r⟩ : T_igd_action)]) (op_buildSliceV (es := [.str s_SetConnectionType, .vec ([s_NewConnectionType].flatMap en_str.f) [s_NewConnectionType].length en_str.k, .str s_GetConnectionTypeInfo, .val (.slice none 0 0), .str s_RequestConnection, .val (.slice none 0 0), .str s_RequestTermination, .val (.slice none 0 0), .str s_ForceTermination, .val (.slice none 0 0), .str s_GetStatusInfo, .val (.slice none 0 0), .str s_GetNATRSIPStatus, .val (.slice none 0 0), .str s_GetExternalIPAddress, .val (.slice none 0 0), .str s_GetGenericPortMappingEnt, .vec ([s_NewPortMappingIndex].flatMap en_str.f) [s_NewPortMappingIndex].length en_str.k, .str s_GetSpecificPortMappingEn, .vec (v6_r.flatMap en_str.f) v6_r.length en_str.k, .str s_AddPortMapping, .vec (v7_r.flatMap en_str.f) v7_r.length en_str.k, .str s_AddAnyPortMapping, .vec (v8_r.flatMap en_str.f) v8_r.length en_str.k, .str s_DeletePortMapping, .vec (v9_r.flatMap en_str.f) v9_r.length en_str.k, .str s_DeletePortMappingRange, .vec (v10_r.flatMap en_str.f) v10_r.length en_str.k, .str s_GetListOfPortMappings, .vec (v11_r.flatMap en_str.f) v11_r.length en_str.k]) U106 SZ109 Z109 rfl rfl rfl rfl rfl) (Weak.vec (.same _ (.same _ (.same _ (.nl en_str.k (.same _ (.nl en_str.k (.same _ (.nl en_str.k (.same _ (.nl en_str.k (.same _ (.nl en_str.k (.same _ (.nl en_str.k (.same _ (.nl en_str.k (.same _ (.same _ (.same _ (.same _ (.same _ (.same _ (.same _ (.same _ (.same _ (.same _ (.same _ (.same _ (.same _ (.same _ (.nil))))))))))))))))))))))))))))))))) rfl rfl rfl ?_
  refine AOps.go (op_assign rfl) rfl rfl rfl ?_
  refine AOps.fin (st' := ⟨[(0, (en_igd_action.vec [(⟨s_SetConnectionType, [s_NewConnectionType]⟩ : T_igd_action), (⟨s_GetConnectionTypeInfo, ([] : List Str)⟩ : T_igd_action), (⟨s_RequestConnection, ([] : List Str)⟩ : T_igd_action), (⟨s_RequestTermination, ([] : List Str)⟩ : T_igd_action), (⟨s_ForceTermination, ([] : List Str)⟩ : T_igd_action), (⟨s_GetStatusInfo, ([] : List Str)⟩ : T_igd_action), (⟨s_GetNATRSIPStatus, ([] : List Str)⟩ : T_igd_action), (⟨s_GetExternalIPAddress, ([] : List Str)⟩ : T_igd_action), (⟨s_GetGenericPortMappingEnt, [s_NewPortMappingIndex]⟩ : T_igd_action), (⟨s_GetSpecificPortMappingEn, v6_r⟩ : T_igd_action), (⟨s_AddPortMapping, v7_r⟩ : T_igd_action), (⟨s_AddAnyPortMapping, v8_r⟩ : T_igd_action), (⟨s_DeletePortMapping, v9_r⟩ : T_igd_action), (⟨s_DeletePortMappingRange, v10_r⟩ : T_igd_action), (⟨s_GetListOfPortMappings, v11_r⟩ : T_igd_action)]))], ⟨[], 0, Ext.emp⟩⟩) (Gh.by [] rfl (.cons rfl (.i _) (.nil)) (.nil)) ?_
  refine AWp.ret ?_
  exact FnQ.retP (Gh.refl _) (RetV.r1 rfl (.tmp rfl)) (congrArg (fun (out : (List T_igd_action)) => ((en_igd_action.vec out) : V)) (Option.some.inj h))

/- hearth/soap.Find -/
def f24_l22 (fu : Nat) (v1_list : (List T_api_Arg)) (name : Str) : Nat → Int → Option (Str × Bool)
  | 0, _ => none
  | m + 1, v16_t10 =>
    bif (decide (v16_t10 < (v1_list.length : Int))) then
      (ix v1_list v16_t10).bind fun v24_y =>
      bif (decide (v24_y.Name = name)) then
        some (v24_y.Value, true)
      else
        lt (IntKind.wrap .i64 (v16_t10 + 1)) fun v26_t20 =>
        f24_l22 fu v1_list name m v26_t20
    else
      some ([], false)
def f24 (fu : Nat) (v1_list : (List T_api_Arg)) (name : Str) : Option (Str × Bool) :=
  f24_l22 fu v1_list name fu 0
set_option maxRecDepth 100000 in
set_option maxHeartbeats 4000000 in
theorem f24_c {fu : Nat} {v1_list : (List T_api_Arg)} {name : Str} {out : Str × Bool} (h : f24 fu v1_list name = some out) : Pure Tryz.prog GG 24 [(en_api_Arg.vec v1_list), .i (.str name)] (.tup [.i (.str out.1), .i (.bool out.2)]) := by
  refine Pure.of (NoIds.cons (NoId.i _) (NoIds.cons (NoId.i _) NoIds.nil)) (NoId.tup (NoIds.cons (NoId.i _) (NoIds.cons (NoId.i _) NoIds.nil))) (ACall.of_body Tryz.func24 rfl (by kernel_rfl) ?_)
  unfold f24 at h
  refine AWp.seq ?_
  refine AWp.region ?_
  refine AOps.go (op_assign rfl) rfl rfl rfl ?_
  refine AOps.go (op_assign rfl) rfl rfl rfl ?_
  refine AOps.nil ?_
  refine AWp.seq ?_
  refine AWp.seq ?_
  refine AWp.region ?_
  refine AOps.go (op_move rfl) rfl rfl rfl ?_
  refine AOps.go (op_len_vec rfl U29 rfl) rfl rfl rfl ?_
  refine AOps.go (op_move rfl) rfl rfl rfl ?_
  refine AOps.fin (st' := ⟨[(1, .i (.str name)), (8, (en_api_Arg.vec v1_list)), (9, .i (.int .i64 (v1_list.length : Int))), (10, .i (.int .i64 0))], ⟨[], 0, Ext.emp⟩⟩) (Gh.by [] rfl (.cons rfl (.i _) (.cons rfl (.i _) (.cons rfl (.i _) (.cons rfl (.i _) (.nil))))) (.nil)) ?_
  refine AWp.block ?_
  refine AWp.loopJ (fun (a : Int) => (⟨[(1, .i (.str name)), (8, (en_api_Arg.vec v1_list)), (9, .i (.int .i64 (v1_list.length : Int))), (10, .i (.int .i64 a))], ⟨[], 0, Ext.emp⟩⟩ : St)) (fun m a => f24_l22 fu v1_list name m a = some out) fu 0 h (Gh.by [] rfl (.cons rfl (.i _) (.cons rfl (.i _) (.cons rfl (.i _) (.cons rfl (.i _) (.nil))))) (.nil)) (fun a h => by cases h) ?_
  intro m a h
  revert h; revert a; intro v16_t10 h
  change AWp _ _ _ _ _ _ _ _ (⟨[(1, .i (.str name)), (8, (en_api_Arg.vec v1_list)), (9, .i (.int .i64 (v1_list.length : Int))), (10, .i (.int .i64 v16_t10))], ⟨[], 0, Ext.emp⟩⟩ : St)
  replace h : f24_l22 fu v1_list name (m + 1) v16_t10 = some out := h
  rw [f24_l22] at h
  refine AWp.seq ?_
  refine AWp.region ?_
  refine AOps.go (op_cmp rfl rfl rfl) rfl rfl rfl ?_
  refine AOps.nil ?_
  refine AWp.seq ?_
  refine AWp.cond rfl (fun hc23 => ?_) (fun hc23 => ?_)
  · replace h := bif_t hc23 h
    refine AWp.skip ?_
    refine AWp.seq ?_
    refine AWp.block ?_
    refine AWp.seq ?_
    refine AWp.region ?_
    obtain ⟨v24_y, h_v24_y, h⟩ := bind_some h
    refine AOps.go (op_indexAddr_vec ST29 rfl rfl (ix_some h_v24_y).1 (ix_some h_v24_y).2.2) rfl rfl rfl ?_
    refine AOps.go (op_load_agg_vp A31 rfl (En.atLe en_api_Arg (ix_some h_v24_y).2.2 rfl rfl) (En.atV en_api_Arg (ix_some h_v24_y).2.1 rfl rfl rfl)) rfl rfl rfl ?_
    refine AOps.go (op_alloc Z31) rfl rfl rfl ?_
    refine AOps.gn (op_store SZ31 rfl rfl rfl rfl rfl (Nat.le_of_ble_eq_true rfl)) rfl rfl ?_
    refine AOps.fin (st' := ⟨[(1, .i (.str name)), (7, .p 0 0), (8, (en_api_Arg.vec v1_list)), (9, .i (.int .i64 (v1_list.length : Int))), (10, .i (.int .i64 v16_t10))], ⟨[(0, [.i (.str v24_y.Name), .i (.str v24_y.Value)])], 1, Ext.emp⟩⟩) (Gh.by [] rfl (.cons rfl (.i _) (.cons rfl (.pB rfl) (.cons rfl (.i _) (.cons rfl (.i _) (.cons rfl (.i _) (.nil)))))) (.cons rfl rfl (.ofI rfl) (.nil))) ?_
    refine AWp.seq ?_
    refine AWp.region ?_
    refine AOps.go (op_fieldAddr_p F31_0 rfl) rfl rfl rfl ?_
    refine AOps.go (op_load_p L9 rfl rfl rfl) rfl rfl rfl ?_
    refine AOps.go (op_move rfl) rfl rfl rfl ?_
    refine AOps.go (op_cmps rfl rfl rfl) rfl rfl rfl ?_
    refine AOps.fin (st' := ⟨[(1, .i (.str name)), (7, .p 0 0), (8, (en_api_Arg.vec v1_list)), (9, .i (.int .i64 (v1_list.length : Int))), (10, .i (.int .i64 v16_t10)), (17, .i (.bool (decide (v24_y.Name = name))))], ⟨[(0, [.i (.str v24_y.Name), .i (.str v24_y.Value)])], 1, Ext.emp⟩⟩) (Gh.by [] rfl (.cons rfl (.i _) (.cons rfl (.pB rfl) (.cons rfl (.i _) (.cons rfl (.i _) (.cons rfl (.i _) (.cons rfl (.i _) (.nil))))))) (.cons rfl rfl (.ofI rfl) (.nil))) ?_
    refine AWp.cond rfl (fun hc25 => ?_) (fun hc25 => ?_)
    · replace h := bif_t hc25 h
      refine AWp.seq ?_
      refine AWp.region ?_
      refine AOps.go (op_fieldAddr_p F31_1 rfl) rfl rfl rfl ?_
      refine AOps.go (op_load_p L9 rfl rfl rfl) rfl rfl rfl ?_
      refine AOps.go (op_assign rfl) rfl rfl rfl ?_
      refine AOps.go (op_assign rfl) rfl rfl rfl ?_
      refine AOps.fin (st' := ⟨[(4, .i (.str v24_y.Value)), (5, .i (.bool true))], ⟨[], 1, Ext.emp⟩⟩) (Gh.by [] rfl (.cons rfl (.i _) (.cons rfl (.i _) (.nil))) (.nil)) ?_
      refine AWp.ret ?_
      exact FnQ.retP (Gh.refl _) (RetV.r2 rfl (.tmp rfl) (.tmp rfl)) (congrArg (fun (out : Str × Bool) => (.tup [.i (.str out.1), .i (.bool out.2)] : V)) (Option.some.inj h))
    · replace h := bif_f hc25 h
      refine AWp.skip ?_
      refine AWp.region ?_
      obtain ⟨v26_t20, h_v26_t20, h⟩ := lt_some h
      refine AOps.go (op_arith rfl rfl (congrArg some h_v26_t20)) rfl rfl rfl ?_
      refine AOps.go (op_move rfl) rfl rfl rfl ?_
      refine AOps.nil ?_
      exact ⟨v26_t20, h, Gh.by [] rfl (.cons rfl (.i _) (.cons rfl (.i _) (.cons rfl (.i _) (.cons rfl (.i _) (.nil))))) (.nil)⟩
  · replace h := bif_f hc23 h
    refine AWp.exit ?_
    refine AWp.seq ?_
    refine AWp.region ?_
    refine AOps.go (op_assign rfl) rfl rfl rfl ?_
    refine AOps.go (op_assign rfl) rfl rfl rfl ?_
    refine AOps.nil ?_
    refine AWp.ret ?_
    exact FnQ.retP (Gh.refl _) (RetV.r2 rfl (.tmp rfl) (.tmp rfl)) (congrArg (fun (out : Str × Bool) => (.tup [.i (.str out.1), .i (.bool out.2)] : V)) (Option.some.inj h))

/- hearth/igd.kindOf -/
def f84_j26 (fu : Nat) (name : Str) (v23_t12 : Bool) : Option (Int) :=
  bif v23_t12 then
    some 5
  else
    bif (decide (name = s_NewLeaseDuration)) then
      some 1
    else
      some 0
def f84_j28 (fu : Nat) (name : Str) (v20_t9 : Bool) : Option (Int) :=
  bif v20_t9 then
    some 4
  else
    bif (decide (name = s_NewPortMappingDescriptio)) then
      f84_j26 fu name (decide (name = s_NewPortMappingDescriptio))
    else
      f84_j26 fu name (decide (name = s_NewConnectionType))
def f84_j30 (fu : Nat) (name : Str) (v16_t4 : Bool) : Option (Int) :=
  bif v16_t4 then
    some 2
  else
    bif (decide (name = s_NewProtocol)) then
      some 3
    else
      bif (decide (name = s_NewEnabled)) then
        f84_j28 fu name (decide (name = s_NewEnabled))
      else
        f84_j28 fu name (decide (name = s_NewManage))
def f84 (fu : Nat) (name : Str) : Option (Int) :=
  bif (decide (name = s_NewRemoteHost)) then
    f84_j30 fu name (decide (name = s_NewRemoteHost))
  else
    f84_j30 fu name (decide (name = s_NewInternalClient))
set_option maxRecDepth 100000 in
set_option maxHeartbeats 4000000 in
theorem f84_c {fu : Nat} {name : Str} {out : Int} (h : f84 fu name = some out) : Pure Tryz.prog GG 84 [.i (.str name)] (.i (.int .i64 out)) := by
  refine Pure.of (NoIds.cons (NoId.i _) NoIds.nil) (NoId.i _) (ACall.of_body Tryz.func84 rfl (by kernel_rfl) ?_)
  unfold f84 at h
  refine AWp.seq ?_
  refine AWp.region ?_
  refine AOps.go (op_assign rfl) rfl rfl rfl ?_
  refine AOps.nil ?_
  refine AWp.seq ?_
  refine AWp.seq ?_
  refine AWp.region ?_
  refine AOps.go (op_move rfl) rfl rfl rfl ?_
  refine AOps.nil ?_
  refine AWp.block ?_
  refine AWp.seqJ (fun (a : Bool) => (⟨[(3, .i (.str name)), (4, .i (.bool a))], ⟨[], 0, Ext.emp⟩⟩ : St)) (fun a => f84_j30 fu name a = some out) ?_ ?_
  · intro a h
    revert h; revert a; intro v16_t4 h
    change AWp _ _ _ _ _ _ _ _ (⟨[(3, .i (.str name)), (4, .i (.bool v16_t4))], ⟨[], 0, Ext.emp⟩⟩ : St)
    replace h : f84_j30 fu name v16_t4 = some out := h
    unfold f84_j30 at h
    refine AWp.cond rfl (fun hc17 => ?_) (fun hc17 => ?_)
    · replace h := bif_t hc17 h
      refine AWp.seq ?_
      refine AWp.region ?_
      refine AOps.go (op_assign rfl) rfl rfl rfl ?_
      refine AOps.nil ?_
      refine AWp.ret ?_
      exact FnQ.retP (Gh.refl _) (RetV.r1 rfl (.tmp rfl)) (congrArg (fun (out : Int) => (.i (.int .i64 out) : V)) (Option.some.inj h))
    · replace h := bif_f hc17 h
      refine AWp.seq ?_
      refine AWp.region ?_
      refine AOps.go (op_cmps rfl rfl rfl) rfl rfl rfl ?_
      refine AOps.go (op_assign rfl) rfl rfl rfl ?_
      refine AOps.nil ?_
      refine AWp.cond rfl (fun hc18 => ?_) (fun hc18 => ?_)
      · replace h := bif_t hc18 h
        refine AWp.seq ?_
        refine AWp.region ?_
        refine AOps.go (op_assign rfl) rfl rfl rfl ?_
        refine AOps.nil ?_
        refine AWp.ret ?_
        exact FnQ.retP (Gh.refl _) (RetV.r1 rfl (.tmp rfl)) (congrArg (fun (out : Int) => (.i (.int .i64 out) : V)) (Option.some.inj h))
      · replace h := bif_f hc18 h
        refine AWp.seqJ (fun (a : Bool) => (⟨[(3, .i (.str name)), (9, .i (.bool a))], ⟨[], 0, Ext.emp⟩⟩ : St)) (fun a => f84_j28 fu name a = some out) ?_ ?_
        · intro a h
          revert h; revert a; intro v20_t9 h
          change AWp _ _ _ _ _ _ _ _ (⟨[(3, .i (.str name)), (9, .i (.bool v20_t9))], ⟨[], 0, Ext.emp⟩⟩ : St)
          replace h : f84_j28 fu name v20_t9 = some out := h
          unfold f84_j28 at h
          refine AWp.cond rfl (fun hc21 => ?_) (fun hc21 => ?_)
          · replace h := bif_t hc21 h
            refine AWp.seq ?_
            refine AWp.region ?_
            refine AOps.go (op_assign rfl) rfl rfl rfl ?_
            refine AOps.nil ?_
            refine AWp.ret ?_
            exact FnQ.retP (Gh.refl _) (RetV.r1 rfl (.tmp rfl)) (congrArg (fun (out : Int) => (.i (.int .i64 out) : V)) (Option.some.inj h))
          · replace h := bif_f hc21 h
            refine AWp.seqJ (fun (a : Bool) => (⟨[(3, .i (.str name)), (12, .i (.bool a))], ⟨[], 0, Ext.emp⟩⟩ : St)) (fun a => f84_j26 fu name a = some out) ?_ ?_
            · intro a h
              revert h; revert a; intro v23_t12 h
              change AWp _ _ _ _ _ _ _ _ (⟨[(3, .i (.str name)), (12, .i (.bool v23_t12))], ⟨[], 0, Ext.emp⟩⟩ : St)
              replace h : f84_j26 fu name v23_t12 = some out := h
              unfold f84_j26 at h
              refine AWp.cond rfl (fun hc24 => ?_) (fun hc24 => ?_)
              · replace h := bif_t hc24 h
                refine AWp.seq ?_
                refine AWp.region ?_
                refine AOps.go (op_assign rfl) rfl rfl rfl ?_
                refine AOps.nil ?_
                refine AWp.ret ?_
                exact FnQ.retP (Gh.refl _) (RetV.r1 rfl (.tmp rfl)) (congrArg (fun (out : Int) => (.i (.int .i64 out) : V)) (Option.some.inj h))
              · replace h := bif_f hc24 h
                refine AWp.seq ?_
                refine AWp.region ?_
                refine AOps.go (op_cmps rfl rfl rfl) rfl rfl rfl ?_
                refine AOps.go (op_assign rfl) rfl rfl rfl ?_
                refine AOps.nil ?_
                refine AWp.cond rfl (fun hc25 => ?_) (fun hc25 => ?_)
                · replace h := bif_t hc25 h
                  refine AWp.seq ?_
                  refine AWp.region ?_
                  refine AOps.go (op_assign rfl) rfl rfl rfl ?_
                  refine AOps.nil ?_
                  refine AWp.ret ?_
                  exact FnQ.retP (Gh.refl _) (RetV.r1 rfl (.tmp rfl)) (congrArg (fun (out : Int) => (.i (.int .i64 out) : V)) (Option.some.inj h))
                · replace h := bif_f hc25 h
                  refine AWp.skip ?_
                  refine AWp.seq ?_
                  refine AWp.region ?_
                  refine AOps.go (op_assign rfl) rfl rfl rfl ?_
                  refine AOps.nil ?_
                  refine AWp.ret ?_
                  exact FnQ.retP (Gh.refl _) (RetV.r1 rfl (.tmp rfl)) (congrArg (fun (out : Int) => (.i (.int .i64 out) : V)) (Option.some.inj h))
            · refine AWp.seq ?_
              refine AWp.region ?_
              refine AOps.go (op_cmps rfl rfl rfl) rfl rfl rfl ?_
              refine AOps.go (op_assign rfl) rfl rfl rfl ?_
              refine AOps.nil ?_
              refine AWp.cond rfl (fun hc27 => ?_) (fun hc27 => ?_)
              · replace h := bif_t hc27 h
                refine AWp.skip ?_
                exact ⟨(decide (name = s_NewPortMappingDescriptio)), h, Gh.by [] rfl (.cons rfl (.i _) (.cons rfl (.i _) (.nil))) (.nil)⟩
              · replace h := bif_f hc27 h
                refine AWp.region ?_
                refine AOps.go (op_cmps rfl rfl rfl) rfl rfl rfl ?_
                refine AOps.go (op_assign rfl) rfl rfl rfl ?_
                refine AOps.nil ?_
                exact ⟨(decide (name = s_NewConnectionType)), h, Gh.by [] rfl (.cons rfl (.i _) (.cons rfl (.i _) (.nil))) (.nil)⟩
        · refine AWp.seq ?_
          refine AWp.region ?_
          refine AOps.go (op_cmps rfl rfl rfl) rfl rfl rfl ?_
          refine AOps.go (op_assign rfl) rfl rfl rfl ?_
          refine AOps.nil ?_
          refine AWp.cond rfl (fun hc29 => ?_) (fun hc29 => ?_)
          · replace h := bif_t hc29 h
            refine AWp.skip ?_
            exact ⟨(decide (name = s_NewEnabled)), h, Gh.by [] rfl (.cons rfl (.i _) (.cons rfl (.i _) (.nil))) (.nil)⟩
          · replace h := bif_f hc29 h
            refine AWp.region ?_
            refine AOps.go (op_cmps rfl rfl rfl) rfl rfl rfl ?_
            refine AOps.go (op_assign rfl) rfl rfl rfl ?_
            refine AOps.nil ?_
            exact ⟨(decide (name = s_NewManage)), h, Gh.by [] rfl (.cons rfl (.i _) (.cons rfl (.i _) (.nil))) (.nil)⟩
  · refine AWp.seq ?_
    refine AWp.region ?_
    refine AOps.go (op_cmps rfl rfl rfl) rfl rfl rfl ?_
    refine AOps.go (op_assign rfl) rfl rfl rfl ?_
    refine AOps.nil ?_
    refine AWp.cond rfl (fun hc31 => ?_) (fun hc31 => ?_)
    · replace h := bif_t hc31 h
      refine AWp.skip ?_
      exact ⟨(decide (name = s_NewRemoteHost)), h, Gh.by [] rfl (.cons rfl (.i _) (.cons rfl (.i _) (.nil))) (.nil)⟩
    · replace h := bif_f hc31 h
      refine AWp.region ?_
      refine AOps.go (op_cmps rfl rfl rfl) rfl rfl rfl ?_
      refine AOps.go (op_assign rfl) rfl rfl rfl ?_
      refine AOps.nil ?_
      exact ⟨(decide (name = s_NewInternalClient)), h, Gh.by [] rfl (.cons rfl (.i _) (.cons rfl (.i _) (.nil))) (.nil)⟩

/- hearth/value.Num -/
def f132_l67 (fu : Nat) (s : Str) (most : Int) (v38_t9 : (List Int)) : Nat → Int → Int → Option (Int × Bool)
  | 0, _, _ => none
  | m + 1, v50_n, v51_t11 =>
    bif (decide (v51_t11 < (v38_t9.length : Int))) then
      (ix v38_t9 v51_t11).bind fun v69_y =>
      lt (fun (v71_t20 : Bool) =>
        bif v71_t20 then
          some (0, false)
        else
          lt (IntKind.wrap .u64 (v50_n * 10)) fun v73_t22 =>
          lt (IntKind.wrap .u8 (v69_y - 48)) fun v74_t24 =>
          lt (IntKind.wrap .u64 v74_t24) fun v75_t25 =>
          lt (IntKind.wrap .u64 (v73_t22 + v75_t25)) fun v76_t26 =>
          bif (decide (10 < (s.length : Int))) then
            some (0, false)
          else
            lt (IntKind.wrap .i64 (v51_t11 + 1)) fun v78_t30 =>
            f132_l67 fu s most v38_t9 m v76_t26 v78_t30) fun j79 =>
      bif (decide (v69_y < 48)) then
        j79 true
      else
        j79 (decide (57 < v69_y))
    else
      lt (fun (v82_t37 : Bool) =>
        bif v82_t37 then
          some (0, false)
        else
          some (v50_n, true)) fun j84 =>
      bif (decide (s = [])) then
        j84 true
      else
        j84 (decide (most < v50_n))
def f132 (fu : Nat) (s : Str) (most : Int) : Option (Int × Bool) :=
  lt (bytesN s) fun v38_t9 =>
  f132_l67 fu s most v38_t9 fu 0 0
set_option maxRecDepth 100000 in
set_option maxHeartbeats 4000000 in
theorem f132_c {fu : Nat} {s : Str} {most : Int} {out : Int × Bool} (h : f132 fu s most = some out) : Pure Tryz.prog GG 132 [.i (.str s), .i (.int .u64 most)] (.tup [.i (.int .u64 out.1), .i (.bool out.2)]) := by
  refine Pure.of (NoIds.cons (NoId.i _) (NoIds.cons (NoId.i _) NoIds.nil)) (NoId.tup (NoIds.cons (NoId.i _) (NoIds.cons (NoId.i _) NoIds.nil))) (ACall.of_body Tryz.func132 rfl (by kernel_rfl) ?_)
  unfold f132 at h
  refine AWp.seq ?_
  refine AWp.region ?_
  refine AOps.go (op_assign rfl) rfl rfl rfl ?_
  refine AOps.go (op_assign rfl) rfl rfl rfl ?_
  refine AOps.nil ?_
  refine AWp.seq ?_
  refine AWp.seq ?_
  refine AWp.region ?_
  refine AOps.go (op_move rfl) rfl rfl rfl ?_
  obtain ⟨v38_t9, h_v38_t9, h⟩ := lt_some h
  refine AOps.go (op_conv_bytesN U9 U60 U5 rfl h_v38_t9) rfl rfl rfl ?_
  refine AOps.go (op_len_vec rfl U60 rfl) rfl rfl rfl ?_
  refine AOps.go (op_move rfl) rfl rfl rfl ?_
  refine AOps.fin (st' := ⟨[(0, .i (.str s)), (1, .i (.int .u64 most)), (4, .i (.int .u64 0)), (9, (en_u8.vec v38_t9)), (10, .i (.int .i64 (v38_t9.length : Int))), (11, .i (.int .i64 0))], ⟨[], 0, Ext.emp⟩⟩) (Gh.by [] rfl (.cons rfl (.i _) (.cons rfl (.i _) (.cons rfl (.i _) (.cons rfl (.i _) (.cons rfl (.i _) (.cons rfl (.i _) (.nil))))))) (.nil)) ?_
  refine AWp.block ?_
  refine AWp.loopJ (fun (a : Int × Int) => (⟨[(0, .i (.str s)), (1, .i (.int .u64 most)), (4, .i (.int .u64 a.1)), (9, (en_u8.vec v38_t9)), (10, .i (.int .i64 (v38_t9.length : Int))), (11, .i (.int .i64 a.2))], ⟨[], 0, Ext.emp⟩⟩ : St)) (fun m a => f132_l67 fu s most v38_t9 m a.1 a.2 = some out) fu (0, 0) h (Gh.by [] rfl (.cons rfl (.i _) (.cons rfl (.i _) (.cons rfl (.i _) (.cons rfl (.i _) (.cons rfl (.i _) (.cons rfl (.i _) (.nil))))))) (.nil)) (fun a h => by cases h) ?_
  intro m a h
  obtain ⟨v50_n, v51_t11⟩ := a
  change AWp _ _ _ _ _ _ _ _ (⟨[(0, .i (.str s)), (1, .i (.int .u64 most)), (4, .i (.int .u64 v50_n)), (9, (en_u8.vec v38_t9)), (10, .i (.int .i64 (v38_t9.length : Int))), (11, .i (.int .i64 v51_t11))], ⟨[], 0, Ext.emp⟩⟩ : St)
  replace h : f132_l67 fu s most v38_t9 (m + 1) v50_n v51_t11 = some out := h
  rw [f132_l67] at h
  refine AWp.seq ?_
  refine AWp.region ?_
  refine AOps.go (op_cmp rfl rfl rfl) rfl rfl rfl ?_
  refine AOps.nil ?_
  refine AWp.seq ?_
  refine AWp.cond rfl (fun hc68 => ?_) (fun hc68 => ?_)
  · replace h := bif_t hc68 h
    refine AWp.skip ?_
    refine AWp.seq ?_
    refine AWp.block ?_
    refine AWp.seq ?_
    refine AWp.region ?_
    obtain ⟨v69_y, h_v69_y, h⟩ := bind_some h
    refine AOps.go (op_indexAddr_vec ST60 rfl rfl (ix_some h_v69_y).1 (ix_some h_v69_y).2.2) rfl rfl rfl ?_
    refine AOps.go (op_load_vp L5 rfl (En.cell (f := 0) en_u8 (ix_some h_v69_y).2.1 rfl rfl)) rfl rfl rfl ?_
    refine AOps.go (op_assign rfl) rfl rfl rfl ?_
    refine AOps.fin (st' := ⟨[(0, .i (.str s)), (1, .i (.int .u64 most)), (4, .i (.int .u64 v50_n)), (7, .i (.int .u8 v69_y)), (9, (en_u8.vec v38_t9)), (10, .i (.int .i64 (v38_t9.length : Int))), (11, .i (.int .i64 v51_t11))], ⟨[], 0, Ext.emp⟩⟩) (Gh.by [] rfl (.cons rfl (.i _) (.cons rfl (.i _) (.cons rfl (.i _) (.cons rfl (.i _) (.cons rfl (.i _) (.cons rfl (.i _) (.cons rfl (.i _) (.nil)))))))) (.nil)) ?_
    refine AWp.seq ?_
    obtain ⟨j79, hj_j79, h⟩ := lt_some h
    refine AWp.seqJ (fun (a : Bool) => (⟨[(0, .i (.str s)), (1, .i (.int .u64 most)), (4, .i (.int .u64 v50_n)), (7, .i (.int .u8 v69_y)), (9, (en_u8.vec v38_t9)), (10, .i (.int .i64 (v38_t9.length : Int))), (11, .i (.int .i64 v51_t11)), (20, .i (.bool a))], ⟨[], 0, Ext.emp⟩⟩ : St)) (fun a => j79 a = some out) ?_ ?_
    · intro a h
      revert h; revert a; intro v71_t20 h
      change AWp _ _ _ _ _ _ _ _ (⟨[(0, .i (.str s)), (1, .i (.int .u64 most)), (4, .i (.int .u64 v50_n)), (7, .i (.int .u8 v69_y)), (9, (en_u8.vec v38_t9)), (10, .i (.int .i64 (v38_t9.length : Int))), (11, .i (.int .i64 v51_t11)), (20, .i (.bool v71_t20))], ⟨[], 0, Ext.emp⟩⟩ : St)
      replace h := (congrFun hj_j79 v71_t20).trans h
      refine AWp.cond rfl (fun hc72 => ?_) (fun hc72 => ?_)
      · replace h := bif_t hc72 h
        refine AWp.seq ?_
        refine AWp.region ?_
        refine AOps.go (op_assign rfl) rfl rfl rfl ?_
        refine AOps.go (op_assign rfl) rfl rfl rfl ?_
        refine AOps.nil ?_
        refine AWp.ret ?_
        exact FnQ.retP (Gh.refl _) (RetV.r2 rfl (.tmp rfl) (.tmp rfl)) (congrArg (fun (out : Int × Bool) => (.tup [.i (.int .u64 out.1), .i (.bool out.2)] : V)) (Option.some.inj h))
      · replace h := bif_f hc72 h
        refine AWp.skip ?_
        refine AWp.seq ?_
        refine AWp.region ?_
        refine AOps.go (op_move rfl) rfl rfl rfl ?_
        obtain ⟨v73_t22, h_v73_t22, h⟩ := lt_some h
        refine AOps.go (op_arith rfl rfl (congrArg some h_v73_t22)) rfl rfl rfl ?_
        refine AOps.go (op_move rfl) rfl rfl rfl ?_
        obtain ⟨v74_t24, h_v74_t24, h⟩ := lt_some h
        refine AOps.go (op_arith rfl rfl (congrArg some h_v74_t24)) rfl rfl rfl ?_
        obtain ⟨v75_t25, h_v75_t25, h⟩ := lt_some h
        refine AOps.go (op_conv_int U5 U40 rfl h_v75_t25) rfl rfl rfl ?_
        obtain ⟨v76_t26, h_v76_t26, h⟩ := lt_some h
        refine AOps.go (op_arith rfl rfl (congrArg some h_v76_t26)) rfl rfl rfl ?_
        refine AOps.go (op_assign rfl) rfl rfl rfl ?_
        refine AOps.fin (st' := ⟨[(0, .i (.str s)), (1, .i (.int .u64 most)), (4, .i (.int .u64 v76_t26)), (9, (en_u8.vec v38_t9)), (10, .i (.int .i64 (v38_t9.length : Int))), (11, .i (.int .i64 v51_t11))], ⟨[], 0, Ext.emp⟩⟩) (Gh.by [] rfl (.cons rfl (.i _) (.cons rfl (.i _) (.cons rfl (.i _) (.cons rfl (.i _) (.cons rfl (.i _) (.cons rfl (.i _) (.nil))))))) (.nil)) ?_
        refine AWp.seq ?_
        refine AWp.region ?_
        refine AOps.go (op_move rfl) rfl rfl rfl ?_
        refine AOps.go (op_len_str rfl U9 rfl) rfl rfl rfl ?_
        refine AOps.go (op_cmp rfl rfl rfl) rfl rfl rfl ?_
        refine AOps.fin (st' := ⟨[(0, .i (.str s)), (1, .i (.int .u64 most)), (4, .i (.int .u64 v76_t26)), (9, (en_u8.vec v38_t9)), (10, .i (.int .i64 (v38_t9.length : Int))), (11, .i (.int .i64 v51_t11)), (29, .i (.bool (decide (10 < (s.length : Int)))))], ⟨[], 0, Ext.emp⟩⟩) (Gh.by [] rfl (.cons rfl (.i _) (.cons rfl (.i _) (.cons rfl (.i _) (.cons rfl (.i _) (.cons rfl (.i _) (.cons rfl (.i _) (.cons rfl (.i _) (.nil)))))))) (.nil)) ?_
        refine AWp.cond rfl (fun hc77 => ?_) (fun hc77 => ?_)
        · replace h := bif_t hc77 h
          refine AWp.seq ?_
          refine AWp.region ?_
          refine AOps.go (op_assign rfl) rfl rfl rfl ?_
          refine AOps.go (op_assign rfl) rfl rfl rfl ?_
          refine AOps.nil ?_
          refine AWp.ret ?_
          exact FnQ.retP (Gh.refl _) (RetV.r2 rfl (.tmp rfl) (.tmp rfl)) (congrArg (fun (out : Int × Bool) => (.tup [.i (.int .u64 out.1), .i (.bool out.2)] : V)) (Option.some.inj h))
        · replace h := bif_f hc77 h
          refine AWp.skip ?_
          refine AWp.region ?_
          obtain ⟨v78_t30, h_v78_t30, h⟩ := lt_some h
          refine AOps.go (op_arith rfl rfl (congrArg some h_v78_t30)) rfl rfl rfl ?_
          refine AOps.go (op_move rfl) rfl rfl rfl ?_
          refine AOps.nil ?_
          exact ⟨(v76_t26, v78_t30), h, Gh.by [] rfl (.cons rfl (.i _) (.cons rfl (.i _) (.cons rfl (.i _) (.cons rfl (.i _) (.cons rfl (.i _) (.cons rfl (.i _) (.nil))))))) (.nil)⟩
    · refine AWp.region ?_
      refine AOps.go (op_move rfl) rfl rfl rfl ?_
      refine AOps.go (op_cmp rfl rfl rfl) rfl rfl rfl ?_
      refine AOps.go (op_move rfl) rfl rfl rfl ?_
      rcases Bool.eq_false_or_eq_true (decide (v69_y < 48)) with hc80 | hc80
      · replace h := bif_t hc80 h
        refine AOps.goF rfl rfl rfl hc80 rfl rfl rfl ?_
        refine AOps.goF rfl rfl rfl hc80 rfl rfl rfl ?_
        refine AOps.go (op_pick_true' rfl hc80 rfl) rfl rfl rfl ?_
        refine AOps.fin (st' := ⟨[(0, .i (.str s)), (1, .i (.int .u64 most)), (4, .i (.int .u64 v50_n)), (7, .i (.int .u8 v69_y)), (9, (en_u8.vec v38_t9)), (10, .i (.int .i64 (v38_t9.length : Int))), (11, .i (.int .i64 v51_t11)), (18, .junk), (19, .junk), (20, .i (.bool true))], ⟨[], 0, Ext.emp⟩⟩) (Gh.by [] rfl (.cons rfl (.i _) (.cons rfl (.i _) (.cons rfl (.i _) (.cons rfl (.i _) (.cons rfl (.i _) (.cons rfl (.i _) (.cons rfl (.i _) (.cons rfl (.junk) (.cons rfl (.junk) (.cons rfl (.i _) (.nil))))))))))) (.nil)) ?_
        exact ⟨true, h, Gh.by [] rfl (.cons rfl (.i _) (.cons rfl (.i _) (.cons rfl (.i _) (.cons rfl (.i _) (.cons rfl (.i _) (.cons rfl (.i _) (.cons rfl (.i _) (.cons rfl (.i _) (.nil))))))))) (.nil)⟩
      · replace h := bif_f hc80 h
        refine AOps.goT (op_move rfl) rfl rfl rfl hc80 rfl rfl rfl ?_
        refine AOps.goT (op_cmp rfl rfl rfl) rfl rfl rfl hc80 rfl rfl rfl ?_
        refine AOps.go (op_pick_false' rfl hc80 rfl) rfl rfl rfl ?_
        refine AOps.fin (st' := ⟨[(0, .i (.str s)), (1, .i (.int .u64 most)), (4, .i (.int .u64 v50_n)), (7, .i (.int .u8 v69_y)), (9, (en_u8.vec v38_t9)), (10, .i (.int .i64 (v38_t9.length : Int))), (11, .i (.int .i64 v51_t11)), (18, .i (.int .u8 v69_y)), (19, .i (.bool (decide (57 < v69_y)))), (20, .i (.bool (decide (57 < v69_y))))], ⟨[], 0, Ext.emp⟩⟩) (Gh.by [] rfl (.cons rfl (.i _) (.cons rfl (.i _) (.cons rfl (.i _) (.cons rfl (.i _) (.cons rfl (.i _) (.cons rfl (.i _) (.cons rfl (.i _) (.cons rfl (.i _) (.cons rfl (.i _) (.cons rfl (.i _) (.nil))))))))))) (.nil)) ?_
        exact ⟨(decide (57 < v69_y)), h, Gh.by [] rfl (.cons rfl (.i _) (.cons rfl (.i _) (.cons rfl (.i _) (.cons rfl (.i _) (.cons rfl (.i _) (.cons rfl (.i _) (.cons rfl (.i _) (.cons rfl (.i _) (.nil))))))))) (.nil)⟩
  · replace h := bif_f hc68 h
    refine AWp.exit ?_
    refine AWp.seq ?_
    obtain ⟨j84, hj_j84, h⟩ := lt_some h
    refine AWp.seqJ (fun (a : Bool) => (⟨[(4, .i (.int .u64 v50_n)), (37, .i (.bool a))], ⟨[], 0, Ext.emp⟩⟩ : St)) (fun a => j84 a = some out) ?_ ?_
    · intro a h
      revert h; revert a; intro v82_t37 h
      change AWp _ _ _ _ _ _ _ _ (⟨[(4, .i (.int .u64 v50_n)), (37, .i (.bool v82_t37))], ⟨[], 0, Ext.emp⟩⟩ : St)
      replace h := (congrFun hj_j84 v82_t37).trans h
      refine AWp.cond rfl (fun hc83 => ?_) (fun hc83 => ?_)
      · replace h := bif_t hc83 h
        refine AWp.seq ?_
        refine AWp.region ?_
        refine AOps.go (op_assign rfl) rfl rfl rfl ?_
        refine AOps.go (op_assign rfl) rfl rfl rfl ?_
        refine AOps.nil ?_
        refine AWp.ret ?_
        exact FnQ.retP (Gh.refl _) (RetV.r2 rfl (.tmp rfl) (.tmp rfl)) (congrArg (fun (out : Int × Bool) => (.tup [.i (.int .u64 out.1), .i (.bool out.2)] : V)) (Option.some.inj h))
      · replace h := bif_f hc83 h
        refine AWp.skip ?_
        refine AWp.seq ?_
        refine AWp.region ?_
        refine AOps.go (op_move rfl) rfl rfl rfl ?_
        refine AOps.go (op_assign rfl) rfl rfl rfl ?_
        refine AOps.go (op_assign rfl) rfl rfl rfl ?_
        refine AOps.fin (st' := ⟨[(4, .i (.int .u64 v50_n)), (5, .i (.bool true))], ⟨[], 0, Ext.emp⟩⟩) (Gh.by [] rfl (.cons rfl (.i _) (.cons rfl (.i _) (.nil))) (.nil)) ?_
        refine AWp.ret ?_
        exact FnQ.retP (Gh.refl _) (RetV.r2 rfl (.tmp rfl) (.tmp rfl)) (congrArg (fun (out : Int × Bool) => (.tup [.i (.int .u64 out.1), .i (.bool out.2)] : V)) (Option.some.inj h))
    · refine AWp.region ?_
      refine AOps.go (op_move rfl) rfl rfl rfl ?_
      refine AOps.go (op_cmps rfl rfl rfl) rfl rfl rfl ?_
      refine AOps.go (op_move rfl) rfl rfl rfl ?_
      rcases Bool.eq_false_or_eq_true (decide (s = [])) with hc85 | hc85
      · replace h := bif_t hc85 h
        refine AOps.goF rfl rfl rfl hc85 rfl rfl rfl ?_
        refine AOps.goF rfl rfl rfl hc85 rfl rfl rfl ?_
        refine AOps.goF rfl rfl rfl hc85 rfl rfl rfl ?_
        refine AOps.go (op_pick_true' rfl hc85 rfl) rfl rfl rfl ?_
        refine AOps.fin (st' := ⟨[(4, .i (.int .u64 v50_n)), (37, .i (.bool true))], ⟨[], 0, Ext.emp⟩⟩) (Gh.by [] rfl (.cons rfl (.i _) (.cons rfl (.i _) (.nil))) (.nil)) ?_
        exact ⟨true, h, Gh.by [] rfl (.cons rfl (.i _) (.cons rfl (.i _) (.nil))) (.nil)⟩
      · replace h := bif_f hc85 h
        refine AOps.goT (op_move rfl) rfl rfl rfl hc85 rfl rfl rfl ?_
        refine AOps.goT (op_move rfl) rfl rfl rfl hc85 rfl rfl rfl ?_
        refine AOps.goT (op_cmp rfl rfl rfl) rfl rfl rfl hc85 rfl rfl rfl ?_
        refine AOps.go (op_pick_false' rfl hc85 rfl) rfl rfl rfl ?_
        refine AOps.fin (st' := ⟨[(4, .i (.int .u64 v50_n)), (37, .i (.bool (decide (most < v50_n))))], ⟨[], 0, Ext.emp⟩⟩) (Gh.by [] rfl (.cons rfl (.i _) (.cons rfl (.i _) (.nil))) (.nil)) ?_
        exact ⟨(decide (most < v50_n)), h, Gh.by [] rfl (.cons rfl (.i _) (.cons rfl (.i _) (.nil))) (.nil)⟩

/- internal/stringslite.Index -/
def f205_j13 (fu : Nat) (s : Str) (substr : Str) (v8_t16 : Bool) : Option (Int) :=
  bif v8_t16 then
    some 0
  else
    bif (decide ((substr.length : Int) = 1)) then
      (ix substr 0).bind fun v11_c =>
      none
    else
      bif (decide ((s.length : Int) ≤ (substr.length : Int))) then
        some (-1)
      else
        none
def f205 (fu : Nat) (s : Str) (substr : Str) : Option (Int) :=
  bif (decide ((substr.length : Int) = 0)) then
    f205_j13 fu s substr true
  else
    f205_j13 fu s substr (decide (substr = s))
set_option maxRecDepth 100000 in
set_option maxHeartbeats 4000000 in
theorem f205_c {fu : Nat} {s : Str} {substr : Str} {out : Int} (h : f205 fu s substr = some out) : Pure Tryz.prog GG 205 [.i (.str s), .i (.str substr)] (.i (.int .i64 out)) := by
  refine Pure.of (NoIds.cons (NoId.i _) (NoIds.cons (NoId.i _) NoIds.nil)) (NoId.i _) (ACall.of_body Tryz.func205 rfl (by kernel_rfl) ?_)
  unfold f205 at h
  refine AWp.seq ?_
  refine AWp.region ?_
  refine AOps.go (op_assign rfl) rfl rfl rfl ?_
  refine AOps.nil ?_
  refine AWp.seq ?_
  refine AWp.region ?_
  refine AOps.go (op_move rfl) rfl rfl rfl ?_
  refine AOps.go (op_len_str rfl U9 rfl) rfl rfl rfl ?_
  refine AOps.go (op_assign rfl) rfl rfl rfl ?_
  refine AOps.fin (st' := ⟨[(0, .i (.str s)), (1, .i (.str substr)), (5, .i (.int .i64 (substr.length : Int)))], ⟨[], 0, Ext.emp⟩⟩) (Gh.by [] rfl (.cons rfl (.i _) (.cons rfl (.i _) (.cons rfl (.i _) (.nil)))) (.nil)) ?_
  refine AWp.seq ?_
  refine AWp.block ?_
  refine AWp.seqJ (fun (a : Bool) => (⟨[(0, .i (.str s)), (1, .i (.str substr)), (5, .i (.int .i64 (substr.length : Int))), (16, .i (.bool a))], ⟨[], 0, Ext.emp⟩⟩ : St)) (fun a => f205_j13 fu s substr a = some out) ?_ ?_
  · intro a h
    revert h; revert a; intro v8_t16 h
    change AWp _ _ _ _ _ _ _ _ (⟨[(0, .i (.str s)), (1, .i (.str substr)), (5, .i (.int .i64 (substr.length : Int))), (16, .i (.bool v8_t16))], ⟨[], 0, Ext.emp⟩⟩ : St)
    replace h : f205_j13 fu s substr v8_t16 = some out := h
    unfold f205_j13 at h
    refine AWp.cond rfl (fun hc9 => ?_) (fun hc9 => ?_)
    · replace h := bif_t hc9 h
      refine AWp.seq ?_
      refine AWp.region ?_
      refine AOps.go (op_assign rfl) rfl rfl rfl ?_
      refine AOps.nil ?_
      refine AWp.ret ?_
      exact FnQ.retP (Gh.refl _) (RetV.r1 rfl (.tmp rfl)) (congrArg (fun (out : Int) => (.i (.int .i64 out) : V)) (Option.some.inj h))
    · replace h := bif_f hc9 h
      refine AWp.seq ?_
      refine AWp.region ?_
      refine AOps.go (op_move rfl) rfl rfl rfl ?_
      refine AOps.go (op_cmp rfl rfl rfl) rfl rfl rfl ?_
      refine AOps.go (op_assign rfl) rfl rfl rfl ?_
      refine AOps.fin (st' := ⟨[(0, .i (.str s)), (1, .i (.str substr)), (5, .i (.int .i64 (substr.length : Int))), (24, .i (.bool (decide ((substr.length : Int) = 1))))], ⟨[], 0, Ext.emp⟩⟩) (Gh.by [] rfl (.cons rfl (.i _) (.cons rfl (.i _) (.cons rfl (.i _) (.cons rfl (.i _) (.nil))))) (.nil)) ?_
      refine AWp.cond rfl (fun hc10 => ?_) (fun hc10 => ?_)
      · replace h := bif_t hc10 h
        refine AWp.seq ?_
        refine AWp.region ?_
        refine AOps.go (op_move rfl) rfl rfl rfl ?_
        refine AOps.go (op_move rfl) rfl rfl rfl ?_
        obtain ⟨v11_c, h_v11_c, h⟩ := bind_some h
        refine AOps.go (op_index_str U9 rfl rfl (ix_some h_v11_c).1 (ix_some h_v11_c).2.1) rfl rfl rfl ?_
        cases h
      · replace h := bif_f hc10 h
        refine AWp.seq ?_
        refine AWp.region ?_
        refine AOps.go (op_move rfl) rfl rfl rfl ?_
        refine AOps.go (op_move rfl) rfl rfl rfl ?_
        refine AOps.go (op_len_str rfl U9 rfl) rfl rfl rfl ?_
        refine AOps.go (op_cmp rfl rfl rfl) rfl rfl rfl ?_
        refine AOps.go (op_assign rfl) rfl rfl rfl ?_
        refine AOps.fin (st' := ⟨[(0, .i (.str s)), (1, .i (.str substr)), (5, .i (.int .i64 (substr.length : Int))), (31, .i (.bool (decide ((s.length : Int) ≤ (substr.length : Int)))))], ⟨[], 0, Ext.emp⟩⟩) (Gh.by [] rfl (.cons rfl (.i _) (.cons rfl (.i _) (.cons rfl (.i _) (.cons rfl (.i _) (.nil))))) (.nil)) ?_
        refine AWp.cond rfl (fun hc12 => ?_) (fun hc12 => ?_)
        · replace h := bif_t hc12 h
          refine AWp.seq ?_
          refine AWp.region ?_
          refine AOps.go (op_assign rfl) rfl rfl rfl ?_
          refine AOps.nil ?_
          refine AWp.ret ?_
          exact FnQ.retP (Gh.refl _) (RetV.r1 rfl (.tmp rfl)) (congrArg (fun (out : Int) => (.i (.int .i64 out) : V)) (Option.some.inj h))
        · replace h := bif_f hc12 h
          refine AWp.seq ?_
          refine AWp.region ?_
          refine AOps.go (op_move rfl) rfl rfl rfl ?_
          cases h
  · refine AWp.region ?_
    refine AOps.go (op_move rfl) rfl rfl rfl ?_
    refine AOps.go (op_cmp rfl rfl rfl) rfl rfl rfl ?_
    refine AOps.go (op_move rfl) rfl rfl rfl ?_
    rcases Bool.eq_false_or_eq_true (decide ((substr.length : Int) = 0)) with hc14 | hc14
    · replace h := bif_t hc14 h
      refine AOps.goF rfl rfl rfl hc14 rfl rfl rfl ?_
      refine AOps.goF rfl rfl rfl hc14 rfl rfl rfl ?_
      refine AOps.goF rfl rfl rfl hc14 rfl rfl rfl ?_
      refine AOps.go (op_pick_true' rfl hc14 rfl) rfl rfl rfl ?_
      refine AOps.go (op_assign rfl) rfl rfl rfl ?_
      refine AOps.fin (st' := ⟨[(0, .i (.str s)), (1, .i (.str substr)), (5, .i (.int .i64 (substr.length : Int))), (16, .i (.bool true))], ⟨[], 0, Ext.emp⟩⟩) (Gh.by [] rfl (.cons rfl (.i _) (.cons rfl (.i _) (.cons rfl (.i _) (.cons rfl (.i _) (.nil))))) (.nil)) ?_
      exact ⟨true, h, Gh.by [] rfl (.cons rfl (.i _) (.cons rfl (.i _) (.cons rfl (.i _) (.cons rfl (.i _) (.nil))))) (.nil)⟩
    · replace h := bif_f hc14 h
      refine AOps.goT (op_move rfl) rfl rfl rfl hc14 rfl rfl rfl ?_
      refine AOps.goT (op_move rfl) rfl rfl rfl hc14 rfl rfl rfl ?_
      refine AOps.goT (op_cmps rfl rfl rfl) rfl rfl rfl hc14 rfl rfl rfl ?_
      refine AOps.go (op_pick_false' rfl hc14 rfl) rfl rfl rfl ?_
      refine AOps.go (op_assign rfl) rfl rfl rfl ?_
      refine AOps.fin (st' := ⟨[(0, .i (.str s)), (1, .i (.str substr)), (5, .i (.int .i64 (substr.length : Int))), (16, .i (.bool (decide (substr = s))))], ⟨[], 0, Ext.emp⟩⟩) (Gh.by [] rfl (.cons rfl (.i _) (.cons rfl (.i _) (.cons rfl (.i _) (.cons rfl (.i _) (.nil))))) (.nil)) ?_
      exact ⟨(decide (substr = s)), h, Gh.by [] rfl (.cons rfl (.i _) (.cons rfl (.i _) (.cons rfl (.i _) (.cons rfl (.i _) (.nil))))) (.nil)⟩

/- strings.Index -/
def f155 (fu : Nat) (s : Str) (substr : Str) : Option (Int) :=
  (f205 fu s substr).bind fun v1_r =>
  some v1_r
set_option maxRecDepth 100000 in
set_option maxHeartbeats 4000000 in
theorem f155_c {fu : Nat} {s : Str} {substr : Str} {out : Int} (h : f155 fu s substr = some out) : Pure Tryz.prog GG 155 [.i (.str s), .i (.str substr)] (.i (.int .i64 out)) := by
  refine Pure.of (NoIds.cons (NoId.i _) (NoIds.cons (NoId.i _) NoIds.nil)) (NoId.i _) (ACall.of_body Tryz.func155 rfl (by kernel_rfl) ?_)
  unfold f155 at h
  refine AWp.seq ?_
  refine AWp.region ?_
  refine AOps.go (op_assign rfl) rfl rfl rfl ?_
  refine AOps.nil ?_
  refine AWp.seq ?_
  refine AWp.region ?_
  refine AOps.go (op_move rfl) rfl rfl rfl ?_
  refine AOps.go (op_move rfl) rfl rfl rfl ?_
  obtain ⟨v1_r, h_v1_r, h⟩ := bind_some h
  refine AOps.go (op_call Tryz.func205 rfl rfl rfl (f205_c h_v1_r _)) rfl rfl rfl ?_
  refine AOps.go (op_assign rfl) rfl rfl rfl ?_
  refine AOps.fin (st' := ⟨[(4, .i (.int .i64 v1_r))], ⟨[], 0, Ext.emp⟩⟩) (Gh.by [] rfl (.cons rfl (.i _) (.nil)) (.nil)) ?_
  refine AWp.ret ?_
  exact FnQ.retP (Gh.refl _) (RetV.r1 rfl (.tmp rfl)) (congrArg (fun (out : Int) => (.i (.int .i64 out) : V)) (Option.some.inj h))

/- strings.Count -/
def f291_l33 (fu : Nat) (substr : Str) : Nat → Str → Int → Option (Int)
  | 0, _, _ => none
  | m + 1, v24_s, v25_n =>
    (f155 fu v24_s substr).bind fun v34_r =>
    bif (decide (v34_r = (-1))) then
      some v25_n
    else
      lt (IntKind.wrap .i64 (v25_n + 1)) fun v36_t27 =>
      lt (IntKind.wrap .i64 (v34_r + (substr.length : Int))) fun v37_t32 =>
      (sub v24_s v37_t32 v24_s.length).bind fun v38_t33 =>
      f291_l33 fu substr m v38_t33 v36_t27
def f291 (fu : Nat) (s : Str) (substr : Str) : Option (Int) :=
  bif (decide ((substr.length : Int) = 0)) then
    none
  else
    bif (decide ((substr.length : Int) = 1)) then
      (ix substr 0).bind fun v19_c =>
      none
    else
      f291_l33 fu substr fu s 0
set_option maxRecDepth 100000 in
set_option maxHeartbeats 4000000 in
theorem f291_c {fu : Nat} {s : Str} {substr : Str} {out : Int} (h : f291 fu s substr = some out) : Pure Tryz.prog GG 291 [.i (.str s), .i (.str substr)] (.i (.int .i64 out)) := by
  refine Pure.of (NoIds.cons (NoId.i _) (NoIds.cons (NoId.i _) NoIds.nil)) (NoId.i _) (ACall.of_body Tryz.func291 rfl (by kernel_rfl) ?_)
  unfold f291 at h
  refine AWp.seq ?_
  refine AWp.region ?_
  refine AOps.go (op_assign rfl) rfl rfl rfl ?_
  refine AOps.nil ?_
  refine AWp.seq ?_
  refine AWp.seq ?_
  refine AWp.region ?_
  refine AOps.go (op_move rfl) rfl rfl rfl ?_
  refine AOps.go (op_len_str rfl U9 rfl) rfl rfl rfl ?_
  refine AOps.go (op_cmp rfl rfl rfl) rfl rfl rfl ?_
  refine AOps.fin (st' := ⟨[(0, .i (.str s)), (1, .i (.str substr)), (9, .i (.bool (decide ((substr.length : Int) = 0))))], ⟨[], 0, Ext.emp⟩⟩) (Gh.by [] rfl (.cons rfl (.i _) (.cons rfl (.i _) (.cons rfl (.i _) (.nil)))) (.nil)) ?_
  refine AWp.cond rfl (fun hc17 => ?_) (fun hc17 => ?_)
  · replace h := bif_t hc17 h
    refine AWp.seq ?_
    refine AWp.region ?_
    refine AOps.go (op_move rfl) rfl rfl rfl ?_
    cases h
  · replace h := bif_f hc17 h
    refine AWp.skip ?_
    refine AWp.seq ?_
    refine AWp.seq ?_
    refine AWp.region ?_
    refine AOps.go (op_move rfl) rfl rfl rfl ?_
    refine AOps.go (op_len_str rfl U9 rfl) rfl rfl rfl ?_
    refine AOps.go (op_cmp rfl rfl rfl) rfl rfl rfl ?_
    refine AOps.fin (st' := ⟨[(0, .i (.str s)), (1, .i (.str substr)), (15, .i (.bool (decide ((substr.length : Int) = 1))))], ⟨[], 0, Ext.emp⟩⟩) (Gh.by [] rfl (.cons rfl (.i _) (.cons rfl (.i _) (.cons rfl (.i _) (.nil)))) (.nil)) ?_
    refine AWp.cond rfl (fun hc18 => ?_) (fun hc18 => ?_)
    · replace h := bif_t hc18 h
      refine AWp.seq ?_
      refine AWp.region ?_
      refine AOps.go (op_move rfl) rfl rfl rfl ?_
      refine AOps.go (op_move rfl) rfl rfl rfl ?_
      obtain ⟨v19_c, h_v19_c, h⟩ := bind_some h
      refine AOps.go (op_index_str U9 rfl rfl (ix_some h_v19_c).1 (ix_some h_v19_c).2.1) rfl rfl rfl ?_
      cases h
    · replace h := bif_f hc18 h
      refine AWp.skip ?_
      refine AWp.seq ?_
      refine AWp.region ?_
      refine AOps.go (op_assign rfl) rfl rfl rfl ?_
      refine AOps.nil ?_
      refine AWp.block ?_
      refine AWp.loopJ (fun (a : Str × Int) => (⟨[(0, .i (.str a.1)), (1, .i (.str substr)), (5, .i (.int .i64 a.2))], ⟨[], 0, Ext.emp⟩⟩ : St)) (fun m a => f291_l33 fu substr m a.1 a.2 = some out) fu (s, 0) h (Gh.by [] rfl (.cons rfl (.i _) (.cons rfl (.i _) (.cons rfl (.i _) (.nil)))) (.nil)) (fun a h => by cases h) ?_
      intro m a h
      obtain ⟨v24_s, v25_n⟩ := a
      change AWp _ _ _ _ _ _ _ _ (⟨[(0, .i (.str v24_s)), (1, .i (.str substr)), (5, .i (.int .i64 v25_n))], ⟨[], 0, Ext.emp⟩⟩ : St)
      replace h : f291_l33 fu substr (m + 1) v24_s v25_n = some out := h
      rw [f291_l33] at h
      refine AWp.block ?_
      refine AWp.seq ?_
      refine AWp.region ?_
      refine AOps.go (op_move rfl) rfl rfl rfl ?_
      refine AOps.go (op_move rfl) rfl rfl rfl ?_
      obtain ⟨v34_r, h_v34_r, h⟩ := bind_some h
      refine AOps.go (op_call Tryz.func155 rfl rfl rfl (f155_c h_v34_r _)) rfl rfl rfl ?_
      refine AOps.go (op_assign rfl) rfl rfl rfl ?_
      refine AOps.fin (st' := ⟨[(0, .i (.str v24_s)), (1, .i (.str substr)), (5, .i (.int .i64 v25_n)), (6, .i (.int .i64 v34_r))], ⟨[], 0, Ext.emp⟩⟩) (Gh.by [] rfl (.cons rfl (.i _) (.cons rfl (.i _) (.cons rfl (.i _) (.cons rfl (.i _) (.nil))))) (.nil)) ?_
      refine AWp.seq ?_
      refine AWp.seq ?_
      refine AWp.region ?_
      refine AOps.go (op_move rfl) rfl rfl rfl ?_
      refine AOps.go (op_cmp rfl rfl rfl) rfl rfl rfl ?_
      refine AOps.nil ?_
      refine AWp.cond rfl (fun hc35 => ?_) (fun hc35 => ?_)
      · replace h := bif_t hc35 h
        refine AWp.seq ?_
        refine AWp.region ?_
        refine AOps.go (op_move rfl) rfl rfl rfl ?_
        refine AOps.go (op_assign rfl) rfl rfl rfl ?_
        refine AOps.nil ?_
        refine AWp.ret ?_
        exact FnQ.retP (Gh.refl _) (RetV.r1 rfl (.tmp rfl)) (congrArg (fun (out : Int) => (.i (.int .i64 out) : V)) (Option.some.inj h))
      · replace h := bif_f hc35 h
        refine AWp.skip ?_
        refine AWp.seq ?_
        refine AWp.region ?_
        refine AOps.go (op_move rfl) rfl rfl rfl ?_
        obtain ⟨v36_t27, h_v36_t27, h⟩ := lt_some h
        refine AOps.go (op_arith rfl rfl (congrArg some h_v36_t27)) rfl rfl rfl ?_
        refine AOps.go (op_assign rfl) rfl rfl rfl ?_
        refine AOps.fin (st' := ⟨[(0, .i (.str v24_s)), (1, .i (.str substr)), (5, .i (.int .i64 v36_t27)), (6, .i (.int .i64 v34_r))], ⟨[], 0, Ext.emp⟩⟩) (Gh.by [] rfl (.cons rfl (.i _) (.cons rfl (.i _) (.cons rfl (.i _) (.cons rfl (.i _) (.nil))))) (.nil)) ?_
        refine AWp.region ?_
        refine AOps.go (op_move rfl) rfl rfl rfl ?_
        refine AOps.go (op_move rfl) rfl rfl rfl ?_
        refine AOps.go (op_move rfl) rfl rfl rfl ?_
        refine AOps.go (op_len_str rfl U9 rfl) rfl rfl rfl ?_
        obtain ⟨v37_t32, h_v37_t32, h⟩ := lt_some h
        refine AOps.go (op_arith rfl rfl (congrArg some h_v37_t32)) rfl rfl rfl ?_
        obtain ⟨v38_t33, h_v38_t33, h⟩ := bind_some h
        refine AOps.go (op_slice_str U9 rfl (Bd.of rfl (sub_some h_v38_t33).1) (Bd.no _) (sub_some h_v38_t33).2.2.1 (sub_some h_v38_t33).2.2.2.1 (sub_some h_v38_t33).2.2.2.2.1) rfl rfl rfl ?_
        refine AOps.go (op_assign rfl) rfl rfl rfl ?_
        refine AOps.fin (st' := ⟨[(0, .i (.str v38_t33)), (1, .i (.str substr)), (5, .i (.int .i64 v36_t27))], ⟨[], 0, Ext.emp⟩⟩) (Gh.by [] rfl (.cons rfl (.i _) (.cons rfl (.i _) (.cons rfl (.i _) (.nil)))) (.nil)) ?_
        exact ⟨(v38_t33, v36_t27), h, Gh.by [] rfl (.cons rfl (.i _) (.cons rfl (.i _) (.cons rfl (.i _) (.nil)))) (.nil)⟩

/- strings.genSplit -/
def f282_j17 (fu : Nat) (s : Str) (v14_n : Int) : Option ((List Str)) :=
  lt (IntKind.wrap .i64 ((s.length : Int) + 1)) fun v15_t28 =>
  lt (if v15_t28 < v14_n then v15_t28 else v14_n) fun v16_t29 =>
  none
def f282 (fu : Nat) (s : Str) (sep : Str) (sepSave : Int) (n : Int) : Option ((List Str)) :=
  bif (decide (n = 0)) then
    some ([] : List Str)
  else
    bif (decide (sep = [])) then
      none
    else
      bif (decide (n < 0)) then
        (f291 fu s sep).bind fun v19_r =>
        lt (IntKind.wrap .i64 (v19_r + 1)) fun v20_t24 =>
        f282_j17 fu s v20_t24
      else
        f282_j17 fu s n
set_option maxRecDepth 100000 in
set_option maxHeartbeats 4000000 in
theorem f282_c {fu : Nat} {s : Str} {sep : Str} {sepSave : Int} {n : Int} {out : (List Str)} (h : f282 fu s sep sepSave n = some out) : Pure Tryz.prog GG 282 [.i (.str s), .i (.str sep), .i (.int .i64 sepSave), .i (.int .i64 n)] ((en_str.vec out)) := by
  refine Pure.of (NoIds.cons (NoId.i _) (NoIds.cons (NoId.i _) (NoIds.cons (NoId.i _) (NoIds.cons (NoId.i _) NoIds.nil)))) (NoId.i _) (ACall.of_body Tryz.func282 rfl (by kernel_rfl) ?_)
  unfold f282 at h
  refine AWp.seq ?_
  refine AWp.region ?_
  refine AOps.go (op_assign rfl) rfl rfl rfl ?_
  refine AOps.nil ?_
  refine AWp.seq ?_
  refine AWp.seq ?_
  refine AWp.region ?_
  refine AOps.go (op_move rfl) rfl rfl rfl ?_
  refine AOps.go (op_cmp rfl rfl rfl) rfl rfl rfl ?_
  refine AOps.nil ?_
  refine AWp.cond rfl (fun hc9 => ?_) (fun hc9 => ?_)
  · replace h := bif_t hc9 h
    refine AWp.seq ?_
    refine AWp.region ?_
    refine AOps.go (op_assign rfl) rfl rfl rfl ?_
    refine AOps.nil ?_
    refine AWp.ret ?_
    exact FnQ.retP (Gh.refl _) (RetV.weak (RetV.r1 rfl (.tmp rfl)) (Weak.nil en_str.k)) (congrArg (fun (out : (List Str)) => ((en_str.vec out) : V)) (Option.some.inj h))
  · replace h := bif_f hc9 h
    refine AWp.skip ?_
    refine AWp.seq ?_
    refine AWp.seq ?_
    refine AWp.region ?_
    refine AOps.go (op_move rfl) rfl rfl rfl ?_
    refine AOps.go (op_cmps rfl rfl rfl) rfl rfl rfl ?_
    refine AOps.nil ?_
    refine AWp.cond rfl (fun hc10 => ?_) (fun hc10 => ?_)
    · replace h := bif_t hc10 h
      refine AWp.seq ?_
      refine AWp.region ?_
      refine AOps.go (op_move rfl) rfl rfl rfl ?_
      refine AOps.go (op_move rfl) rfl rfl rfl ?_
      cases h
    · replace h := bif_f hc10 h
      refine AWp.skip ?_
      refine AWp.seqJ (fun (a : Int) => (⟨[(0, .i (.str s)), (1, .i (.str sep)), (2, .i (.int .i64 sepSave)), (3, .i (.int .i64 a))], ⟨[], 0, Ext.emp⟩⟩ : St)) (fun a => f282_j17 fu s a = some out) ?_ ?_
      · intro a h
        revert h; revert a; intro v14_n h
        change AWp _ _ _ _ _ _ _ _ (⟨[(0, .i (.str s)), (1, .i (.str sep)), (2, .i (.int .i64 sepSave)), (3, .i (.int .i64 v14_n))], ⟨[], 0, Ext.emp⟩⟩ : St)
        replace h : f282_j17 fu s v14_n = some out := h
        unfold f282_j17 at h
        refine AWp.seq ?_
        refine AWp.region ?_
        refine AOps.go (op_move rfl) rfl rfl rfl ?_
        refine AOps.go (op_move rfl) rfl rfl rfl ?_
        refine AOps.go (op_len_str rfl U9 rfl) rfl rfl rfl ?_
        obtain ⟨v15_t28, h_v15_t28, h⟩ := lt_some h
        refine AOps.go (op_arith rfl rfl (congrArg some h_v15_t28)) rfl rfl rfl ?_
        obtain ⟨v16_t29, h_v16_t29, h⟩ := lt_some h
        refine AOps.go (op_min rfl rfl h_v16_t29) rfl rfl rfl ?_
        refine AOps.go (op_assign rfl) rfl rfl rfl ?_
        refine AOps.fin (st' := ⟨[(0, .i (.str s)), (1, .i (.str sep)), (2, .i (.int .i64 sepSave)), (3, .i (.int .i64 v16_t29))], ⟨[], 0, Ext.emp⟩⟩) (Gh.by [] rfl (.cons rfl (.i _) (.cons rfl (.i _) (.cons rfl (.i _) (.cons rfl (.i _) (.nil))))) (.nil)) ?_
        refine AWp.seq ?_
        refine AWp.region ?_
        refine AOps.go (op_move rfl) rfl rfl rfl ?_
        cases h
      · refine AWp.seq ?_
        refine AWp.region ?_
        refine AOps.go (op_move rfl) rfl rfl rfl ?_
        refine AOps.go (op_cmp rfl rfl rfl) rfl rfl rfl ?_
        refine AOps.nil ?_
        refine AWp.cond rfl (fun hc18 => ?_) (fun hc18 => ?_)
        · replace h := bif_t hc18 h
          refine AWp.region ?_
          refine AOps.go (op_move rfl) rfl rfl rfl ?_
          refine AOps.go (op_move rfl) rfl rfl rfl ?_
          obtain ⟨v19_r, h_v19_r, h⟩ := bind_some h
          refine AOps.go (op_call Tryz.func291 rfl rfl rfl (f291_c h_v19_r _)) rfl rfl rfl ?_
          obtain ⟨v20_t24, h_v20_t24, h⟩ := lt_some h
          refine AOps.go (op_arith rfl rfl (congrArg some h_v20_t24)) rfl rfl rfl ?_
          refine AOps.go (op_assign rfl) rfl rfl rfl ?_
          refine AOps.fin (st' := ⟨[(0, .i (.str s)), (1, .i (.str sep)), (2, .i (.int .i64 sepSave)), (3, .i (.int .i64 v20_t24))], ⟨[], 0, Ext.emp⟩⟩) (Gh.by [] rfl (.cons rfl (.i _) (.cons rfl (.i _) (.cons rfl (.i _) (.cons rfl (.i _) (.nil))))) (.nil)) ?_
          exact ⟨v20_t24, h, Gh.by [] rfl (.cons rfl (.i _) (.cons rfl (.i _) (.cons rfl (.i _) (.cons rfl (.i _) (.nil))))) (.nil)⟩
        · replace h := bif_f hc18 h
          refine AWp.skip ?_
          exact ⟨n, h, Gh.by [] rfl (.cons rfl (.i _) (.cons rfl (.i _) (.cons rfl (.i _) (.cons rfl (.i _) (.nil))))) (.nil)⟩

/- strings.Split -/
def f239 (fu : Nat) (s : Str) (sep : Str) : Option ((List Str)) :=
  (f282 fu s sep 0 (-1)).bind fun v1_r =>
  some v1_r
set_option maxRecDepth 100000 in
set_option maxHeartbeats 4000000 in
theorem f239_c {fu : Nat} {s : Str} {sep : Str} {out : (List Str)} (h : f239 fu s sep = some out) : Pure Tryz.prog GG 239 [.i (.str s), .i (.str sep)] ((en_str.vec out)) := by
  refine Pure.of (NoIds.cons (NoId.i _) (NoIds.cons (NoId.i _) NoIds.nil)) (NoId.i _) (ACall.of_body Tryz.func239 rfl (by kernel_rfl) ?_)
  unfold f239 at h
  refine AWp.seq ?_
  refine AWp.region ?_
  refine AOps.go (op_assign rfl) rfl rfl rfl ?_
  refine AOps.nil ?_
  refine AWp.seq ?_
  refine AWp.region ?_
  refine AOps.go (op_move rfl) rfl rfl rfl ?_
  refine AOps.go (op_move rfl) rfl rfl rfl ?_
  obtain ⟨v1_r, h_v1_r, h⟩ := bind_some h
  refine AOps.go (op_call Tryz.func282 rfl rfl rfl (f282_c h_v1_r _)) rfl rfl rfl ?_
  refine AOps.go (op_assign rfl) rfl rfl rfl ?_
  refine AOps.fin (st' := ⟨[(4, (en_str.vec v1_r))], ⟨[], 0, Ext.emp⟩⟩) (Gh.by [] rfl (.cons rfl (.i _) (.nil)) (.nil)) ?_
  refine AWp.ret ?_
  exact FnQ.retP (Gh.refl _) (RetV.r1 rfl (.tmp rfl)) (congrArg (fun (out : (List Str)) => ((en_str.vec out) : V)) (Option.some.inj h))

/- hearth/octet.width -/
def f237 (fu : Nat) (size : Int) : Option (Int) :=
  lt (if 0 > size then 0 else size) fun v1_t4 =>
  lt (if 8 < v1_t4 then 8 else v1_t4) fun v2_t5 =>
  some v2_t5
set_option maxRecDepth 100000 in
set_option maxHeartbeats 4000000 in
theorem f237_c {fu : Nat} {size : Int} {out : Int} (h : f237 fu size = some out) : Pure Tryz.prog GG 237 [.i (.int .i64 size)] (.i (.int .i64 out)) := by
  refine Pure.of (NoIds.cons (NoId.i _) NoIds.nil) (NoId.i _) (ACall.of_body Tryz.func237 rfl (by kernel_rfl) ?_)
  unfold f237 at h
  refine AWp.seq ?_
  refine AWp.region ?_
  refine AOps.go (op_assign rfl) rfl rfl rfl ?_
  refine AOps.nil ?_
  refine AWp.seq ?_
  refine AWp.region ?_
  refine AOps.go (op_move rfl) rfl rfl rfl ?_
  obtain ⟨v1_t4, h_v1_t4, h⟩ := lt_some h
  refine AOps.go (op_max rfl rfl h_v1_t4) rfl rfl rfl ?_
  obtain ⟨v2_t5, h_v2_t5, h⟩ := lt_some h
  refine AOps.go (op_min rfl rfl h_v2_t5) rfl rfl rfl ?_
  refine AOps.go (op_assign rfl) rfl rfl rfl ?_
  refine AOps.fin (st' := ⟨[(2, .i (.int .i64 v2_t5))], ⟨[], 0, Ext.emp⟩⟩) (Gh.by [] rfl (.cons rfl (.i _) (.nil)) (.nil)) ?_
  refine AWp.ret ?_
  exact FnQ.retP (Gh.refl _) (RetV.r1 rfl (.tmp rfl)) (congrArg (fun (out : Int) => (.i (.int .i64 out) : V)) (Option.some.inj h))

/- hearth/inet.Parse -/
def f186_l353 (fu : Nat) (j335 : (Int → Option (Int × Bool))) (v336_t20 : (List Int)) : Nat → Int → Int → Option (Int × Bool)
  | 0, _, _ => none
  | m + 1, v342_n, v343_t22 =>
    bif (decide (v343_t22 < (v336_t20.length : Int))) then
      (ix v336_t20 v343_t22).bind fun v355_y =>
      lt (IntKind.wrap .i64 (v342_n * 10)) fun v356_t27 =>
      lt (IntKind.wrap .i64 v355_y) fun v357_t29 =>
      lt (IntKind.wrap .i64 (v356_t27 + v357_t29)) fun v358_t30 =>
      lt (IntKind.wrap .i64 (v358_t30 - 48)) fun v359_t31 =>
      lt (IntKind.wrap .i64 (v343_t22 + 1)) fun v360_t32 =>
      f186_l353 fu j335 v336_t20 m v359_t31 v360_t32
    else
      j335 v342_n
def f186_l242 (fu : Nat) (v174_r : ((List Str))) : Nat → Int → Int → Option (Int × Bool)
  | 0, _, _ => none
  | m + 1, v206_a, v207_t15 =>
    bif (decide (v207_t15 < (v174_r.length : Int))) then
      lt (fun (v301_a : Int) =>
        lt (IntKind.wrap .i64 (v207_t15 + 1)) fun v302_t39 =>
        f186_l242 fu v174_r m v301_a v302_t39) fun j303 =>
      (ix v174_r v207_t15).bind fun v304_y =>
      lt (fun (v330_n : Int) =>
        lt (IntKind.wrap .u32 (v206_a * 2 ^ (min ((8) : Int).toNat (IntKind.bits .u32)))) fun v331_t34 =>
        lt (IntKind.wrap .i64 (BitVec.ofInt (IntKind.bits .i64) v330_n &&& BitVec.ofInt (IntKind.bits .i64) 255).toNat) fun v332_t36 =>
        lt (IntKind.wrap .u32 v332_t36) fun v333_t37 =>
        lt (IntKind.wrap .u32 (BitVec.ofInt (IntKind.bits .u32) v331_t34 ||| BitVec.ofInt (IntKind.bits .u32) v333_t37).toNat) fun v334_t38 =>
        j303 v334_t38) fun j335 =>
      lt (bytesN v304_y) fun v336_t20 =>
      f186_l353 fu j335 v336_t20 fu 0 0
    else
      none
def f186 (fu : Nat) (s : Str) : Option (Int × Bool) :=
  bif (decide (15 < (s.length : Int))) then
    some (0, false)
  else
    (f239 fu s s_).bind fun v174_r =>
    f186_l242 fu v174_r fu 0 0
set_option maxRecDepth 100000 in
set_option maxHeartbeats 4000000 in
theorem f186_c {fu : Nat} {s : Str} {out : Int × Bool} (h : f186 fu s = some out) : Pure Tryz.prog GG 186 [.i (.str s)] (.tup [.i (.int .u32 out.1), .i (.bool out.2)]) := by
  refine Pure.of (NoIds.cons (NoId.i _) NoIds.nil) (NoId.tup (NoIds.cons (NoId.i _) (NoIds.cons (NoId.i _) NoIds.nil))) (ACall.of_body Tryz.func186 rfl (by kernel_rfl) ?_)
  unfold f186 at h
  refine AWp.seq ?_
  refine AWp.region ?_
  refine AOps.go (op_assign rfl) rfl rfl rfl ?_
  refine AOps.go (op_assign rfl) rfl rfl rfl ?_
  refine AOps.nil ?_
  refine AWp.seq ?_
  refine AWp.seq ?_
  refine AWp.region ?_
  refine AOps.go (op_move rfl) rfl rfl rfl ?_
  refine AOps.go (op_len_str rfl U9 rfl) rfl rfl rfl ?_
  refine AOps.go (op_cmp rfl rfl rfl) rfl rfl rfl ?_
  refine AOps.fin (st' := ⟨[(0, .i (.str s)), (2, .i (.int .u32 0)), (11, .i (.bool (decide (15 < (s.length : Int)))))], ⟨[], 0, Ext.emp⟩⟩) (Gh.by [] rfl (.cons rfl (.i _) (.cons rfl (.i _) (.cons rfl (.i _) (.nil)))) (.nil)) ?_
  refine AWp.cond rfl (fun hc173 => ?_) (fun hc173 => ?_)
  · replace h := bif_t hc173 h
    refine AWp.seq ?_
    refine AWp.region ?_
    refine AOps.go (op_assign rfl) rfl rfl rfl ?_
    refine AOps.go (op_assign rfl) rfl rfl rfl ?_
    refine AOps.nil ?_
    refine AWp.ret ?_
    exact FnQ.retP (Gh.refl _) (RetV.r2 rfl (.tmp rfl) (.tmp rfl)) (congrArg (fun (out : Int × Bool) => (.tup [.i (.int .u32 out.1), .i (.bool out.2)] : V)) (Option.some.inj h))
  · replace h := bif_f hc173 h
    refine AWp.skip ?_
    refine AWp.seq ?_
    refine AWp.seq ?_
    refine AWp.region ?_
    refine AOps.go (op_move rfl) rfl rfl rfl ?_
    obtain ⟨v174_r, h_v174_r, h⟩ := bind_some h
    refine AOps.go (op_call Tryz.func239 rfl rfl rfl (f239_c h_v174_r _)) rfl rfl rfl ?_
    refine AOps.go (op_len_vec rfl U26 rfl) rfl rfl rfl ?_
    refine AOps.go (op_move rfl) rfl rfl rfl ?_
    refine AOps.fin (st' := ⟨[(0, .i (.str s)), (2, .i (.int .u32 0)), (13, (en_str.vec v174_r)), (14, .i (.int .i64 (v174_r.length : Int))), (15, .i (.int .i64 0))], ⟨[], 0, Ext.emp⟩⟩) (Gh.by [] rfl (.cons rfl (.i _) (.cons rfl (.i _) (.cons rfl (.i _) (.cons rfl (.i _) (.cons rfl (.i _) (.nil)))))) (.nil)) ?_
    refine AWp.block ?_
    refine AWp.loopJ (fun (a : Int × Int) => (⟨[(0, .i (.str s)), (2, .i (.int .u32 a.1)), (13, (en_str.vec v174_r)), (14, .i (.int .i64 (v174_r.length : Int))), (15, .i (.int .i64 a.2))], ⟨[], 0, Ext.emp⟩⟩ : St)) (fun m a => f186_l242 fu v174_r m a.1 a.2 = some out) fu (0, 0) h (Gh.by [] rfl (.cons rfl (.i _) (.cons rfl (.i _) (.cons rfl (.i _) (.cons rfl (.i _) (.cons rfl (.i _) (.nil)))))) (.nil)) (fun a h => by cases h) ?_
    intro m a h
    obtain ⟨v206_a, v207_t15⟩ := a
    change AWp _ _ _ _ _ _ _ _ (⟨[(0, .i (.str s)), (2, .i (.int .u32 v206_a)), (13, (en_str.vec v174_r)), (14, .i (.int .i64 (v174_r.length : Int))), (15, .i (.int .i64 v207_t15))], ⟨[], 0, Ext.emp⟩⟩ : St)
    replace h : f186_l242 fu v174_r (m + 1) v206_a v207_t15 = some out := h
    rw [f186_l242] at h
    refine AWp.seq ?_
    refine AWp.region ?_
    refine AOps.go (op_cmp rfl rfl rfl) rfl rfl rfl ?_
    refine AOps.nil ?_
    refine AWp.seq ?_
    refine AWp.cond rfl (fun hc243 => ?_) (fun hc243 => ?_)
    · replace h := bif_t hc243 h
      refine AWp.skip ?_
      obtain ⟨j303, hj_j303, h⟩ := lt_some h
      refine AWp.seqJ (fun (a : Int) => (⟨[(0, .i (.str s)), (2, .i (.int .u32 a)), (13, (en_str.vec v174_r)), (14, .i (.int .i64 (v174_r.length : Int))), (15, .i (.int .i64 v207_t15))], ⟨[], 0, Ext.emp⟩⟩ : St)) (fun a => j303 a = some out) ?_ ?_
      · intro a h
        revert h; revert a; intro v301_a h
        change AWp _ _ _ _ _ _ _ _ (⟨[(0, .i (.str s)), (2, .i (.int .u32 v301_a)), (13, (en_str.vec v174_r)), (14, .i (.int .i64 (v174_r.length : Int))), (15, .i (.int .i64 v207_t15))], ⟨[], 0, Ext.emp⟩⟩ : St)
        replace h := (congrFun hj_j303 v301_a).trans h
        refine AWp.region ?_
        obtain ⟨v302_t39, h_v302_t39, h⟩ := lt_some h
        refine AOps.go (op_arith rfl rfl (congrArg some h_v302_t39)) rfl rfl rfl ?_
        refine AOps.go (op_move rfl) rfl rfl rfl ?_
        refine AOps.nil ?_
        exact ⟨(v301_a, v302_t39), h, Gh.by [] rfl (.cons rfl (.i _) (.cons rfl (.i _) (.cons rfl (.i _) (.cons rfl (.i _) (.cons rfl (.i _) (.nil)))))) (.nil)⟩
      · refine AWp.block ?_
        refine AWp.seq ?_
        refine AWp.region ?_
        obtain ⟨v304_y, h_v304_y, h⟩ := bind_some h
        refine AOps.go (op_indexAddr_vec ST26 rfl rfl (ix_some h_v304_y).1 (ix_some h_v304_y).2.2) rfl rfl rfl ?_
        refine AOps.go (op_load_vp L9 rfl (En.cell (f := 0) en_str (ix_some h_v304_y).2.1 rfl rfl)) rfl rfl rfl ?_
        refine AOps.go (op_assign rfl) rfl rfl rfl ?_
        refine AOps.fin (st' := ⟨[(0, .i (.str s)), (2, .i (.int .u32 v206_a)), (5, .i (.str v304_y)), (13, (en_str.vec v174_r)), (14, .i (.int .i64 (v174_r.length : Int))), (15, .i (.int .i64 v207_t15))], ⟨[], 0, Ext.emp⟩⟩) (Gh.by [] rfl (.cons rfl (.i _) (.cons rfl (.i _) (.cons rfl (.i _) (.cons rfl (.i _) (.cons rfl (.i _) (.cons rfl (.i _) (.nil))))))) (.nil)) ?_
        refine AWp.seq ?_
        refine AWp.region ?_
        refine AOps.go (op_assign rfl) rfl rfl rfl ?_
        refine AOps.nil ?_
        obtain ⟨j335, hj_j335, h⟩ := lt_some h
        refine AWp.seqJ (fun (a : Int) => (⟨[(0, .i (.str s)), (2, .i (.int .u32 v206_a)), (6, .i (.int .i64 a)), (13, (en_str.vec v174_r)), (14, .i (.int .i64 (v174_r.length : Int))), (15, .i (.int .i64 v207_t15))], ⟨[], 0, Ext.emp⟩⟩ : St)) (fun a => j335 a = some out) ?_ ?_
        · intro a h
          revert h; revert a; intro v330_n h
          change AWp _ _ _ _ _ _ _ _ (⟨[(0, .i (.str s)), (2, .i (.int .u32 v206_a)), (6, .i (.int .i64 v330_n)), (13, (en_str.vec v174_r)), (14, .i (.int .i64 (v174_r.length : Int))), (15, .i (.int .i64 v207_t15))], ⟨[], 0, Ext.emp⟩⟩ : St)
          replace h := (congrFun hj_j335 v330_n).trans h
          refine AWp.region ?_
          refine AOps.go (op_move rfl) rfl rfl rfl ?_
          obtain ⟨v331_t34, h_v331_t34, h⟩ := lt_some h
          refine AOps.go (op_shl rfl rfl (by decide) h_v331_t34) rfl rfl rfl ?_
          refine AOps.go (op_move rfl) rfl rfl rfl ?_
          obtain ⟨v332_t36, h_v332_t36, h⟩ := lt_some h
          refine AOps.go (op_arith rfl rfl (congrArg some h_v332_t36)) rfl rfl rfl ?_
          obtain ⟨v333_t37, h_v333_t37, h⟩ := lt_some h
          refine AOps.go (op_conv_int U3 U23 rfl h_v333_t37) rfl rfl rfl ?_
          obtain ⟨v334_t38, h_v334_t38, h⟩ := lt_some h
          refine AOps.go (op_arith rfl rfl (congrArg some h_v334_t38)) rfl rfl rfl ?_
          refine AOps.go (op_assign rfl) rfl rfl rfl ?_
          refine AOps.fin (st' := ⟨[(0, .i (.str s)), (2, .i (.int .u32 v334_t38)), (13, (en_str.vec v174_r)), (14, .i (.int .i64 (v174_r.length : Int))), (15, .i (.int .i64 v207_t15))], ⟨[], 0, Ext.emp⟩⟩) (Gh.by [] rfl (.cons rfl (.i _) (.cons rfl (.i _) (.cons rfl (.i _) (.cons rfl (.i _) (.cons rfl (.i _) (.nil)))))) (.nil)) ?_
          exact ⟨v334_t38, h, Gh.by [] rfl (.cons rfl (.i _) (.cons rfl (.i _) (.cons rfl (.i _) (.cons rfl (.i _) (.cons rfl (.i _) (.nil)))))) (.nil)⟩
        · refine AWp.seq ?_
          refine AWp.region ?_
          refine AOps.go (op_move rfl) rfl rfl rfl ?_
          obtain ⟨v336_t20, h_v336_t20, h⟩ := lt_some h
          refine AOps.go (op_conv_bytesN U9 U60 U5 rfl h_v336_t20) rfl rfl rfl ?_
          refine AOps.go (op_len_vec rfl U60 rfl) rfl rfl rfl ?_
          refine AOps.go (op_move rfl) rfl rfl rfl ?_
          refine AOps.fin (st' := ⟨[(0, .i (.str s)), (2, .i (.int .u32 v206_a)), (6, .i (.int .i64 0)), (13, (en_str.vec v174_r)), (14, .i (.int .i64 (v174_r.length : Int))), (15, .i (.int .i64 v207_t15)), (20, (en_u8.vec v336_t20)), (21, .i (.int .i64 (v336_t20.length : Int))), (22, .i (.int .i64 0))], ⟨[], 0, Ext.emp⟩⟩) (Gh.by [] rfl (.cons rfl (.i _) (.cons rfl (.i _) (.cons rfl (.i _) (.cons rfl (.i _) (.cons rfl (.i _) (.cons rfl (.i _) (.cons rfl (.i _) (.cons rfl (.i _) (.cons rfl (.i _) (.nil)))))))))) (.nil)) ?_
          refine AWp.block ?_
          refine AWp.loopJ (fun (a : Int × Int) => (⟨[(0, .i (.str s)), (2, .i (.int .u32 v206_a)), (6, .i (.int .i64 a.1)), (13, (en_str.vec v174_r)), (14, .i (.int .i64 (v174_r.length : Int))), (15, .i (.int .i64 v207_t15)), (20, (en_u8.vec v336_t20)), (21, .i (.int .i64 (v336_t20.length : Int))), (22, .i (.int .i64 a.2))], ⟨[], 0, Ext.emp⟩⟩ : St)) (fun m a => f186_l353 fu j335 v336_t20 m a.1 a.2 = some out) fu (0, 0) h (Gh.by [] rfl (.cons rfl (.i _) (.cons rfl (.i _) (.cons rfl (.i _) (.cons rfl (.i _) (.cons rfl (.i _) (.cons rfl (.i _) (.cons rfl (.i _) (.cons rfl (.i _) (.cons rfl (.i _) (.nil)))))))))) (.nil)) (fun a h => by cases h) ?_
          intro m a h
          obtain ⟨v342_n, v343_t22⟩ := a
          change AWp _ _ _ _ _ _ _ _ (⟨[(0, .i (.str s)), (2, .i (.int .u32 v206_a)), (6, .i (.int .i64 v342_n)), (13, (en_str.vec v174_r)), (14, .i (.int .i64 (v174_r.length : Int))), (15, .i (.int .i64 v207_t15)), (20, (en_u8.vec v336_t20)), (21, .i (.int .i64 (v336_t20.length : Int))), (22, .i (.int .i64 v343_t22))], ⟨[], 0, Ext.emp⟩⟩ : St)
          replace h : f186_l353 fu j335 v336_t20 (m + 1) v342_n v343_t22 = some out := h
          rw [f186_l353] at h
          refine AWp.seq ?_
          refine AWp.region ?_
          refine AOps.go (op_cmp rfl rfl rfl) rfl rfl rfl ?_
          refine AOps.nil ?_
          refine AWp.seq ?_
          refine AWp.cond rfl (fun hc354 => ?_) (fun hc354 => ?_)
          · replace h := bif_t hc354 h
            refine AWp.skip ?_
            refine AWp.seq ?_
            refine AWp.block ?_
            refine AWp.seq ?_
            refine AWp.region ?_
            obtain ⟨v355_y, h_v355_y, h⟩ := bind_some h
            refine AOps.go (op_indexAddr_vec ST60 rfl rfl (ix_some h_v355_y).1 (ix_some h_v355_y).2.2) rfl rfl rfl ?_
            refine AOps.go (op_load_vp L5 rfl (En.cell (f := 0) en_u8 (ix_some h_v355_y).2.1 rfl rfl)) rfl rfl rfl ?_
            refine AOps.go (op_assign rfl) rfl rfl rfl ?_
            refine AOps.fin (st' := ⟨[(0, .i (.str s)), (2, .i (.int .u32 v206_a)), (6, .i (.int .i64 v342_n)), (8, .i (.int .u8 v355_y)), (13, (en_str.vec v174_r)), (14, .i (.int .i64 (v174_r.length : Int))), (15, .i (.int .i64 v207_t15)), (20, (en_u8.vec v336_t20)), (21, .i (.int .i64 (v336_t20.length : Int))), (22, .i (.int .i64 v343_t22))], ⟨[], 0, Ext.emp⟩⟩) (Gh.by [] rfl (.cons rfl (.i _) (.cons rfl (.i _) (.cons rfl (.i _) (.cons rfl (.i _) (.cons rfl (.i _) (.cons rfl (.i _) (.cons rfl (.i _) (.cons rfl (.i _) (.cons rfl (.i _) (.cons rfl (.i _) (.nil))))))))))) (.nil)) ?_
            refine AWp.region ?_
            refine AOps.go (op_move rfl) rfl rfl rfl ?_
            obtain ⟨v356_t27, h_v356_t27, h⟩ := lt_some h
            refine AOps.go (op_arith rfl rfl (congrArg some h_v356_t27)) rfl rfl rfl ?_
            refine AOps.go (op_move rfl) rfl rfl rfl ?_
            obtain ⟨v357_t29, h_v357_t29, h⟩ := lt_some h
            refine AOps.go (op_conv_int U5 U3 rfl h_v357_t29) rfl rfl rfl ?_
            obtain ⟨v358_t30, h_v358_t30, h⟩ := lt_some h
            refine AOps.go (op_arith rfl rfl (congrArg some h_v358_t30)) rfl rfl rfl ?_
            obtain ⟨v359_t31, h_v359_t31, h⟩ := lt_some h
            refine AOps.go (op_arith rfl rfl (congrArg some h_v359_t31)) rfl rfl rfl ?_
            refine AOps.go (op_assign rfl) rfl rfl rfl ?_
            refine AOps.fin (st' := ⟨[(0, .i (.str s)), (2, .i (.int .u32 v206_a)), (6, .i (.int .i64 v359_t31)), (13, (en_str.vec v174_r)), (14, .i (.int .i64 (v174_r.length : Int))), (15, .i (.int .i64 v207_t15)), (20, (en_u8.vec v336_t20)), (21, .i (.int .i64 (v336_t20.length : Int))), (22, .i (.int .i64 v343_t22))], ⟨[], 0, Ext.emp⟩⟩) (Gh.by [] rfl (.cons rfl (.i _) (.cons rfl (.i _) (.cons rfl (.i _) (.cons rfl (.i _) (.cons rfl (.i _) (.cons rfl (.i _) (.cons rfl (.i _) (.cons rfl (.i _) (.cons rfl (.i _) (.nil)))))))))) (.nil)) ?_
            refine AWp.region ?_
            obtain ⟨v360_t32, h_v360_t32, h⟩ := lt_some h
            refine AOps.go (op_arith rfl rfl (congrArg some h_v360_t32)) rfl rfl rfl ?_
            refine AOps.go (op_move rfl) rfl rfl rfl ?_
            refine AOps.nil ?_
            exact ⟨(v359_t31, v360_t32), h, Gh.by [] rfl (.cons rfl (.i _) (.cons rfl (.i _) (.cons rfl (.i _) (.cons rfl (.i _) (.cons rfl (.i _) (.cons rfl (.i _) (.cons rfl (.i _) (.cons rfl (.i _) (.cons rfl (.i _) (.nil)))))))))) (.nil)⟩
          · replace h := bif_f hc354 h
            refine AWp.exit ?_
            exact ⟨v342_n, h, Gh.by [] rfl (.cons rfl (.i _) (.cons rfl (.i _) (.cons rfl (.i _) (.cons rfl (.i _) (.cons rfl (.i _) (.cons rfl (.i _) (.nil))))))) (.nil)⟩
    · replace h := bif_f hc243 h
      refine AWp.exit ?_
      refine AWp.seq ?_
      refine AWp.seq ?_
      refine AWp.region ?_
      refine AOps.go (op_move rfl) rfl rfl rfl ?_
      cases h

/- hearth/value.Addr -/
def f133 (fu : Nat) (s : Str) : Option (Int × Bool) :=
  bif (decide (s = [])) then
    some (0, true)
  else
    (f186 fu s).bind fun v3_r =>
    some (v3_r.1, v3_r.2)
set_option maxRecDepth 100000 in
set_option maxHeartbeats 4000000 in
theorem f133_c {fu : Nat} {s : Str} {out : Int × Bool} (h : f133 fu s = some out) : Pure Tryz.prog GG 133 [.i (.str s)] (.tup [.i (.int .u32 out.1), .i (.bool out.2)]) := by
  refine Pure.of (NoIds.cons (NoId.i _) NoIds.nil) (NoId.tup (NoIds.cons (NoId.i _) (NoIds.cons (NoId.i _) NoIds.nil))) (ACall.of_body Tryz.func133 rfl (by kernel_rfl) ?_)
  unfold f133 at h
  refine AWp.seq ?_
  refine AWp.region ?_
  refine AOps.go (op_assign rfl) rfl rfl rfl ?_
  refine AOps.go (op_assign rfl) rfl rfl rfl ?_
  refine AOps.nil ?_
  refine AWp.seq ?_
  refine AWp.seq ?_
  refine AWp.region ?_
  refine AOps.go (op_move rfl) rfl rfl rfl ?_
  refine AOps.go (op_cmps rfl rfl rfl) rfl rfl rfl ?_
  refine AOps.nil ?_
  refine AWp.cond rfl (fun hc2 => ?_) (fun hc2 => ?_)
  · replace h := bif_t hc2 h
    refine AWp.seq ?_
    refine AWp.region ?_
    refine AOps.go (op_assign rfl) rfl rfl rfl ?_
    refine AOps.go (op_assign rfl) rfl rfl rfl ?_
    refine AOps.nil ?_
    refine AWp.ret ?_
    exact FnQ.retP (Gh.refl _) (RetV.r2 rfl (.tmp rfl) (.tmp rfl)) (congrArg (fun (out : Int × Bool) => (.tup [.i (.int .u32 out.1), .i (.bool out.2)] : V)) (Option.some.inj h))
  · replace h := bif_f hc2 h
    refine AWp.skip ?_
    refine AWp.seq ?_
    refine AWp.region ?_
    refine AOps.go (op_move rfl) rfl rfl rfl ?_
    obtain ⟨v3_r, h_v3_r, h⟩ := bind_some h
    refine AOps.go (op_call Tryz.func186 rfl rfl rfl (f186_c h_v3_r _)) rfl rfl rfl ?_
    refine AOps.go (op_extract rfl rfl) rfl rfl rfl ?_
    refine AOps.go (op_extract rfl rfl) rfl rfl rfl ?_
    refine AOps.go (op_assign rfl) rfl rfl rfl ?_
    refine AOps.go (op_assign rfl) rfl rfl rfl ?_
    refine AOps.fin (st' := ⟨[(2, .i (.int .u32 v3_r.1)), (3, .i (.bool v3_r.2))], ⟨[], 0, Ext.emp⟩⟩) (Gh.by [] rfl (.cons rfl (.i _) (.cons rfl (.i _) (.nil))) (.nil)) ?_
    refine AWp.ret ?_
    exact FnQ.retP (Gh.refl _) (RetV.r2 rfl (.tmp rfl) (.tmp rfl)) (congrArg (fun (out : Int × Bool) => (.tup [.i (.int .u32 out.1), .i (.bool out.2)] : V)) (Option.some.inj h))

/- hearth/value.Proto -/
def f134 (fu : Nat) (s : Str) : Option (Int × Bool) :=
  bif (decide (s = s_TCP)) then
    some (6, true)
  else
    bif (decide (s = s_UDP)) then
      some (17, true)
    else
      some (0, false)
set_option maxRecDepth 100000 in
set_option maxHeartbeats 4000000 in
theorem f134_c {fu : Nat} {s : Str} {out : Int × Bool} (h : f134 fu s = some out) : Pure Tryz.prog GG 134 [.i (.str s)] (.tup [.i (.int .u8 out.1), .i (.bool out.2)]) := by
  refine Pure.of (NoIds.cons (NoId.i _) NoIds.nil) (NoId.tup (NoIds.cons (NoId.i _) (NoIds.cons (NoId.i _) NoIds.nil))) (ACall.of_body Tryz.func134 rfl (by kernel_rfl) ?_)
  unfold f134 at h
  refine AWp.seq ?_
  refine AWp.region ?_
  refine AOps.go (op_assign rfl) rfl rfl rfl ?_
  refine AOps.go (op_assign rfl) rfl rfl rfl ?_
  refine AOps.nil ?_
  refine AWp.seq ?_
  refine AWp.seq ?_
  refine AWp.region ?_
  refine AOps.go (op_move rfl) rfl rfl rfl ?_
  refine AOps.nil ?_
  refine AWp.block ?_
  refine AWp.seq ?_
  refine AWp.region ?_
  refine AOps.go (op_cmps rfl rfl rfl) rfl rfl rfl ?_
  refine AOps.go (op_assign rfl) rfl rfl rfl ?_
  refine AOps.nil ?_
  refine AWp.cond rfl (fun hc3 => ?_) (fun hc3 => ?_)
  · replace h := bif_t hc3 h
    refine AWp.seq ?_
    refine AWp.region ?_
    refine AOps.go (op_assign rfl) rfl rfl rfl ?_
    refine AOps.go (op_assign rfl) rfl rfl rfl ?_
    refine AOps.nil ?_
    refine AWp.ret ?_
    exact FnQ.retP (Gh.refl _) (RetV.r2 rfl (.tmp rfl) (.tmp rfl)) (congrArg (fun (out : Int × Bool) => (.tup [.i (.int .u8 out.1), .i (.bool out.2)] : V)) (Option.some.inj h))
  · replace h := bif_f hc3 h
    refine AWp.seq ?_
    refine AWp.region ?_
    refine AOps.go (op_cmps rfl rfl rfl) rfl rfl rfl ?_
    refine AOps.go (op_assign rfl) rfl rfl rfl ?_
    refine AOps.nil ?_
    refine AWp.cond rfl (fun hc4 => ?_) (fun hc4 => ?_)
    · replace h := bif_t hc4 h
      refine AWp.seq ?_
      refine AWp.region ?_
      refine AOps.go (op_assign rfl) rfl rfl rfl ?_
      refine AOps.go (op_assign rfl) rfl rfl rfl ?_
      refine AOps.nil ?_
      refine AWp.ret ?_
      exact FnQ.retP (Gh.refl _) (RetV.r2 rfl (.tmp rfl) (.tmp rfl)) (congrArg (fun (out : Int × Bool) => (.tup [.i (.int .u8 out.1), .i (.bool out.2)] : V)) (Option.some.inj h))
    · replace h := bif_f hc4 h
      refine AWp.skip ?_
      refine AWp.seq ?_
      refine AWp.region ?_
      refine AOps.go (op_assign rfl) rfl rfl rfl ?_
      refine AOps.go (op_assign rfl) rfl rfl rfl ?_
      refine AOps.nil ?_
      refine AWp.ret ?_
      exact FnQ.retP (Gh.refl _) (RetV.r2 rfl (.tmp rfl) (.tmp rfl)) (congrArg (fun (out : Int × Bool) => (.tup [.i (.int .u8 out.1), .i (.bool out.2)] : V)) (Option.some.inj h))

/- hearth/value.Flag -/
def f135_j21 (fu : Nat) (v19_t9 : Bool) : Option (Bool × Bool) :=
  bif v19_t9 then
    some (false, true)
  else
    some (false, false)
def f135_j24 (fu : Nat) (s : Str) (v15_t5 : Bool) : Option (Bool × Bool) :=
  bif v15_t5 then
    some (true, true)
  else
    bif (decide (s = s_0)) then
      f135_j21 fu (decide (s = s_0))
    else
      bif (decide (s = s_false)) then
        f135_j21 fu (decide (s = s_false))
      else
        f135_j21 fu (decide (s = s_no))
def f135 (fu : Nat) (s : Str) : Option (Bool × Bool) :=
  bif (decide (s = s_1)) then
    f135_j24 fu s (decide (s = s_1))
  else
    bif (decide (s = s_true)) then
      f135_j24 fu s (decide (s = s_true))
    else
      f135_j24 fu s (decide (s = s_yes))
set_option maxRecDepth 100000 in
set_option maxHeartbeats 4000000 in
theorem f135_c {fu : Nat} {s : Str} {out : Bool × Bool} (h : f135 fu s = some out) : Pure Tryz.prog GG 135 [.i (.str s)] (.tup [.i (.bool out.1), .i (.bool out.2)]) := by
  refine Pure.of (NoIds.cons (NoId.i _) NoIds.nil) (NoId.tup (NoIds.cons (NoId.i _) (NoIds.cons (NoId.i _) NoIds.nil))) (ACall.of_body Tryz.func135 rfl (by kernel_rfl) ?_)
  unfold f135 at h
  refine AWp.seq ?_
  refine AWp.region ?_
  refine AOps.go (op_assign rfl) rfl rfl rfl ?_
  refine AOps.go (op_assign rfl) rfl rfl rfl ?_
  refine AOps.nil ?_
  refine AWp.seq ?_
  refine AWp.seq ?_
  refine AWp.region ?_
  refine AOps.go (op_move rfl) rfl rfl rfl ?_
  refine AOps.nil ?_
  refine AWp.block ?_
  refine AWp.seqJ (fun (a : Bool) => (⟨[(4, .i (.str s)), (5, .i (.bool a))], ⟨[], 0, Ext.emp⟩⟩ : St)) (fun a => f135_j24 fu s a = some out) ?_ ?_
  · intro a h
    revert h; revert a; intro v15_t5 h
    change AWp _ _ _ _ _ _ _ _ (⟨[(4, .i (.str s)), (5, .i (.bool v15_t5))], ⟨[], 0, Ext.emp⟩⟩ : St)
    replace h : f135_j24 fu s v15_t5 = some out := h
    unfold f135_j24 at h
    refine AWp.cond rfl (fun hc16 => ?_) (fun hc16 => ?_)
    · replace h := bif_t hc16 h
      refine AWp.seq ?_
      refine AWp.region ?_
      refine AOps.go (op_assign rfl) rfl rfl rfl ?_
      refine AOps.go (op_assign rfl) rfl rfl rfl ?_
      refine AOps.nil ?_
      refine AWp.ret ?_
      exact FnQ.retP (Gh.refl _) (RetV.r2 rfl (.tmp rfl) (.tmp rfl)) (congrArg (fun (out : Bool × Bool) => (.tup [.i (.bool out.1), .i (.bool out.2)] : V)) (Option.some.inj h))
    · replace h := bif_f hc16 h
      refine AWp.seqJ (fun (a : Bool) => (⟨[(9, .i (.bool a))], ⟨[], 0, Ext.emp⟩⟩ : St)) (fun a => f135_j21 fu a = some out) ?_ ?_
      · intro a h
        revert h; revert a; intro v19_t9 h
        change AWp _ _ _ _ _ _ _ _ (⟨[(9, .i (.bool v19_t9))], ⟨[], 0, Ext.emp⟩⟩ : St)
        replace h : f135_j21 fu v19_t9 = some out := h
        unfold f135_j21 at h
        refine AWp.cond rfl (fun hc20 => ?_) (fun hc20 => ?_)
        · replace h := bif_t hc20 h
          refine AWp.seq ?_
          refine AWp.region ?_
          refine AOps.go (op_assign rfl) rfl rfl rfl ?_
          refine AOps.go (op_assign rfl) rfl rfl rfl ?_
          refine AOps.nil ?_
          refine AWp.ret ?_
          exact FnQ.retP (Gh.refl _) (RetV.r2 rfl (.tmp rfl) (.tmp rfl)) (congrArg (fun (out : Bool × Bool) => (.tup [.i (.bool out.1), .i (.bool out.2)] : V)) (Option.some.inj h))
        · replace h := bif_f hc20 h
          refine AWp.skip ?_
          refine AWp.seq ?_
          refine AWp.region ?_
          refine AOps.go (op_assign rfl) rfl rfl rfl ?_
          refine AOps.go (op_assign rfl) rfl rfl rfl ?_
          refine AOps.nil ?_
          refine AWp.ret ?_
          exact FnQ.retP (Gh.refl _) (RetV.r2 rfl (.tmp rfl) (.tmp rfl)) (congrArg (fun (out : Bool × Bool) => (.tup [.i (.bool out.1), .i (.bool out.2)] : V)) (Option.some.inj h))
      · refine AWp.seq ?_
        refine AWp.region ?_
        refine AOps.go (op_cmps rfl rfl rfl) rfl rfl rfl ?_
        refine AOps.go (op_assign rfl) rfl rfl rfl ?_
        refine AOps.nil ?_
        refine AWp.cond rfl (fun hc22 => ?_) (fun hc22 => ?_)
        · replace h := bif_t hc22 h
          refine AWp.skip ?_
          exact ⟨(decide (s = s_0)), h, Gh.by [] rfl (.cons rfl (.i _) (.nil)) (.nil)⟩
        · replace h := bif_f hc22 h
          refine AWp.seq ?_
          refine AWp.region ?_
          refine AOps.go (op_cmps rfl rfl rfl) rfl rfl rfl ?_
          refine AOps.go (op_assign rfl) rfl rfl rfl ?_
          refine AOps.nil ?_
          refine AWp.cond rfl (fun hc23 => ?_) (fun hc23 => ?_)
          · replace h := bif_t hc23 h
            refine AWp.skip ?_
            exact ⟨(decide (s = s_false)), h, Gh.by [] rfl (.cons rfl (.i _) (.nil)) (.nil)⟩
          · replace h := bif_f hc23 h
            refine AWp.region ?_
            refine AOps.go (op_cmps rfl rfl rfl) rfl rfl rfl ?_
            refine AOps.go (op_assign rfl) rfl rfl rfl ?_
            refine AOps.nil ?_
            exact ⟨(decide (s = s_no)), h, Gh.by [] rfl (.cons rfl (.i _) (.nil)) (.nil)⟩
  · refine AWp.seq ?_
    refine AWp.region ?_
    refine AOps.go (op_cmps rfl rfl rfl) rfl rfl rfl ?_
    refine AOps.go (op_assign rfl) rfl rfl rfl ?_
    refine AOps.nil ?_
    refine AWp.cond rfl (fun hc25 => ?_) (fun hc25 => ?_)
    · replace h := bif_t hc25 h
      refine AWp.skip ?_
      exact ⟨(decide (s = s_1)), h, Gh.by [] rfl (.cons rfl (.i _) (.cons rfl (.i _) (.nil))) (.nil)⟩
    · replace h := bif_f hc25 h
      refine AWp.seq ?_
      refine AWp.region ?_
      refine AOps.go (op_cmps rfl rfl rfl) rfl rfl rfl ?_
      refine AOps.go (op_assign rfl) rfl rfl rfl ?_
      refine AOps.nil ?_
      refine AWp.cond rfl (fun hc26 => ?_) (fun hc26 => ?_)
      · replace h := bif_t hc26 h
        refine AWp.skip ?_
        exact ⟨(decide (s = s_true)), h, Gh.by [] rfl (.cons rfl (.i _) (.cons rfl (.i _) (.nil))) (.nil)⟩
      · replace h := bif_f hc26 h
        refine AWp.region ?_
        refine AOps.go (op_cmps rfl rfl rfl) rfl rfl rfl ?_
        refine AOps.go (op_assign rfl) rfl rfl rfl ?_
        refine AOps.nil ?_
        exact ⟨(decide (s = s_yes)), h, Gh.by [] rfl (.cons rfl (.i _) (.cons rfl (.i _) (.nil))) (.nil)⟩

/- hearth/value.Words -/
def f136_l41 (fu : Nat) (s : Str) (v23_t6 : (List Int)) : Nat → Int → Option (Bool)
  | 0, _ => none
  | m + 1, v31_t8 =>
    bif (decide (v31_t8 < (v23_t6.length : Int))) then
      (ix v23_t6 v31_t8).bind fun v43_y =>
      lt (fun (v45_t17 : Bool) =>
        bif v45_t17 then
          some false
        else
          lt (IntKind.wrap .i64 (v31_t8 + 1)) fun v47_t18 =>
          f136_l41 fu s v23_t6 m v47_t18) fun j48 =>
      bif (decide (v43_y < 32)) then
        j48 true
      else
        j48 (decide (126 < v43_y))
    else
      some (decide ((s.length : Int) ≤ 64))
def f136 (fu : Nat) (s : Str) : Option (Bool) :=
  lt (bytesN s) fun v23_t6 =>
  f136_l41 fu s v23_t6 fu 0
set_option maxRecDepth 100000 in
set_option maxHeartbeats 4000000 in
theorem f136_c {fu : Nat} {s : Str} {out : Bool} (h : f136 fu s = some out) : Pure Tryz.prog GG 136 [.i (.str s)] (.i (.bool out)) := by
  refine Pure.of (NoIds.cons (NoId.i _) NoIds.nil) (NoId.i _) (ACall.of_body Tryz.func136 rfl (by kernel_rfl) ?_)
  unfold f136 at h
  refine AWp.seq ?_
  refine AWp.region ?_
  refine AOps.go (op_assign rfl) rfl rfl rfl ?_
  refine AOps.nil ?_
  refine AWp.seq ?_
  refine AWp.seq ?_
  refine AWp.region ?_
  refine AOps.go (op_move rfl) rfl rfl rfl ?_
  obtain ⟨v23_t6, h_v23_t6, h⟩ := lt_some h
  refine AOps.go (op_conv_bytesN U9 U60 U5 rfl h_v23_t6) rfl rfl rfl ?_
  refine AOps.go (op_len_vec rfl U60 rfl) rfl rfl rfl ?_
  refine AOps.go (op_move rfl) rfl rfl rfl ?_
  refine AOps.fin (st' := ⟨[(0, .i (.str s)), (6, (en_u8.vec v23_t6)), (7, .i (.int .i64 (v23_t6.length : Int))), (8, .i (.int .i64 0))], ⟨[], 0, Ext.emp⟩⟩) (Gh.by [] rfl (.cons rfl (.i _) (.cons rfl (.i _) (.cons rfl (.i _) (.cons rfl (.i _) (.nil))))) (.nil)) ?_
  refine AWp.block ?_
  refine AWp.loopJ (fun (a : Int) => (⟨[(0, .i (.str s)), (6, (en_u8.vec v23_t6)), (7, .i (.int .i64 (v23_t6.length : Int))), (8, .i (.int .i64 a))], ⟨[], 0, Ext.emp⟩⟩ : St)) (fun m a => f136_l41 fu s v23_t6 m a = some out) fu 0 h (Gh.by [] rfl (.cons rfl (.i _) (.cons rfl (.i _) (.cons rfl (.i _) (.cons rfl (.i _) (.nil))))) (.nil)) (fun a h => by cases h) ?_
  intro m a h
  revert h; revert a; intro v31_t8 h
  change AWp _ _ _ _ _ _ _ _ (⟨[(0, .i (.str s)), (6, (en_u8.vec v23_t6)), (7, .i (.int .i64 (v23_t6.length : Int))), (8, .i (.int .i64 v31_t8))], ⟨[], 0, Ext.emp⟩⟩ : St)
  replace h : f136_l41 fu s v23_t6 (m + 1) v31_t8 = some out := h
  rw [f136_l41] at h
  refine AWp.seq ?_
  refine AWp.region ?_
  refine AOps.go (op_cmp rfl rfl rfl) rfl rfl rfl ?_
  refine AOps.nil ?_
  refine AWp.seq ?_
  refine AWp.cond rfl (fun hc42 => ?_) (fun hc42 => ?_)
  · replace h := bif_t hc42 h
    refine AWp.skip ?_
    refine AWp.seq ?_
    refine AWp.block ?_
    refine AWp.seq ?_
    refine AWp.region ?_
    obtain ⟨v43_y, h_v43_y, h⟩ := bind_some h
    refine AOps.go (op_indexAddr_vec ST60 rfl rfl (ix_some h_v43_y).1 (ix_some h_v43_y).2.2) rfl rfl rfl ?_
    refine AOps.go (op_load_vp L5 rfl (En.cell (f := 0) en_u8 (ix_some h_v43_y).2.1 rfl rfl)) rfl rfl rfl ?_
    refine AOps.go (op_assign rfl) rfl rfl rfl ?_
    refine AOps.fin (st' := ⟨[(0, .i (.str s)), (4, .i (.int .u8 v43_y)), (6, (en_u8.vec v23_t6)), (7, .i (.int .i64 (v23_t6.length : Int))), (8, .i (.int .i64 v31_t8))], ⟨[], 0, Ext.emp⟩⟩) (Gh.by [] rfl (.cons rfl (.i _) (.cons rfl (.i _) (.cons rfl (.i _) (.cons rfl (.i _) (.cons rfl (.i _) (.nil)))))) (.nil)) ?_
    obtain ⟨j48, hj_j48, h⟩ := lt_some h
    refine AWp.seqJ (fun (a : Bool) => (⟨[(0, .i (.str s)), (6, (en_u8.vec v23_t6)), (7, .i (.int .i64 (v23_t6.length : Int))), (8, .i (.int .i64 v31_t8)), (17, .i (.bool a))], ⟨[], 0, Ext.emp⟩⟩ : St)) (fun a => j48 a = some out) ?_ ?_
    · intro a h
      revert h; revert a; intro v45_t17 h
      change AWp _ _ _ _ _ _ _ _ (⟨[(0, .i (.str s)), (6, (en_u8.vec v23_t6)), (7, .i (.int .i64 (v23_t6.length : Int))), (8, .i (.int .i64 v31_t8)), (17, .i (.bool v45_t17))], ⟨[], 0, Ext.emp⟩⟩ : St)
      replace h := (congrFun hj_j48 v45_t17).trans h
      refine AWp.cond rfl (fun hc46 => ?_) (fun hc46 => ?_)
      · replace h := bif_t hc46 h
        refine AWp.seq ?_
        refine AWp.region ?_
        refine AOps.go (op_assign rfl) rfl rfl rfl ?_
        refine AOps.nil ?_
        refine AWp.ret ?_
        exact FnQ.retP (Gh.refl _) (RetV.r1 rfl (.tmp rfl)) (congrArg (fun (out : Bool) => (.i (.bool out) : V)) (Option.some.inj h))
      · replace h := bif_f hc46 h
        refine AWp.skip ?_
        refine AWp.region ?_
        obtain ⟨v47_t18, h_v47_t18, h⟩ := lt_some h
        refine AOps.go (op_arith rfl rfl (congrArg some h_v47_t18)) rfl rfl rfl ?_
        refine AOps.go (op_move rfl) rfl rfl rfl ?_
        refine AOps.nil ?_
        exact ⟨v47_t18, h, Gh.by [] rfl (.cons rfl (.i _) (.cons rfl (.i _) (.cons rfl (.i _) (.cons rfl (.i _) (.nil))))) (.nil)⟩
    · refine AWp.region ?_
      refine AOps.go (op_move rfl) rfl rfl rfl ?_
      refine AOps.go (op_cmp rfl rfl rfl) rfl rfl rfl ?_
      refine AOps.go (op_move rfl) rfl rfl rfl ?_
      rcases Bool.eq_false_or_eq_true (decide (v43_y < 32)) with hc49 | hc49
      · replace h := bif_t hc49 h
        refine AOps.goF rfl rfl rfl hc49 rfl rfl rfl ?_
        refine AOps.goF rfl rfl rfl hc49 rfl rfl rfl ?_
        refine AOps.go (op_pick_true' rfl hc49 rfl) rfl rfl rfl ?_
        refine AOps.fin (st' := ⟨[(0, .i (.str s)), (6, (en_u8.vec v23_t6)), (7, .i (.int .i64 (v23_t6.length : Int))), (8, .i (.int .i64 v31_t8)), (15, .junk), (16, .junk), (17, .i (.bool true))], ⟨[], 0, Ext.emp⟩⟩) (Gh.by [] rfl (.cons rfl (.i _) (.cons rfl (.i _) (.cons rfl (.i _) (.cons rfl (.i _) (.cons rfl (.junk) (.cons rfl (.junk) (.cons rfl (.i _) (.nil)))))))) (.nil)) ?_
        exact ⟨true, h, Gh.by [] rfl (.cons rfl (.i _) (.cons rfl (.i _) (.cons rfl (.i _) (.cons rfl (.i _) (.cons rfl (.i _) (.nil)))))) (.nil)⟩
      · replace h := bif_f hc49 h
        refine AOps.goT (op_move rfl) rfl rfl rfl hc49 rfl rfl rfl ?_
        refine AOps.goT (op_cmp rfl rfl rfl) rfl rfl rfl hc49 rfl rfl rfl ?_
        refine AOps.go (op_pick_false' rfl hc49 rfl) rfl rfl rfl ?_
        refine AOps.fin (st' := ⟨[(0, .i (.str s)), (6, (en_u8.vec v23_t6)), (7, .i (.int .i64 (v23_t6.length : Int))), (8, .i (.int .i64 v31_t8)), (15, .i (.int .u8 v43_y)), (16, .i (.bool (decide (126 < v43_y)))), (17, .i (.bool (decide (126 < v43_y))))], ⟨[], 0, Ext.emp⟩⟩) (Gh.by [] rfl (.cons rfl (.i _) (.cons rfl (.i _) (.cons rfl (.i _) (.cons rfl (.i _) (.cons rfl (.i _) (.cons rfl (.i _) (.cons rfl (.i _) (.nil)))))))) (.nil)) ?_
        exact ⟨(decide (126 < v43_y)), h, Gh.by [] rfl (.cons rfl (.i _) (.cons rfl (.i _) (.cons rfl (.i _) (.cons rfl (.i _) (.cons rfl (.i _) (.nil)))))) (.nil)⟩
  · replace h := bif_f hc42 h
    refine AWp.exit ?_
    refine AWp.seq ?_
    refine AWp.region ?_
    refine AOps.go (op_move rfl) rfl rfl rfl ?_
    refine AOps.go (op_len_str rfl U9 rfl) rfl rfl rfl ?_
    refine AOps.go (op_cmp rfl rfl rfl) rfl rfl rfl ?_
    refine AOps.go (op_assign rfl) rfl rfl rfl ?_
    refine AOps.fin (st' := ⟨[(2, .i (.bool (decide ((s.length : Int) ≤ 64))))], ⟨[], 0, Ext.emp⟩⟩) (Gh.by [] rfl (.cons rfl (.i _) (.nil)) (.nil)) ?_
    refine AWp.ret ?_
    exact FnQ.retP (Gh.refl _) (RetV.r1 rfl (.tmp rfl)) (congrArg (fun (out : Bool) => (.i (.bool out) : V)) (Option.some.inj h))

/- hearth/igd.of -/
def f83_j35 (fu : Nat) (v34_ok : Bool) : Option (Bool) :=
  some v34_ok
def f83 (fu : Nat) (k : Int) (s : Str) : Option (Bool) :=
  bif (decide (k = 1)) then
    (f132 fu s 4294967295).bind fun v37_r =>
    f83_j35 fu v37_r.2
  else
    bif (decide (k = 2)) then
      (f133 fu s).bind fun v39_r =>
      f83_j35 fu v39_r.2
    else
      bif (decide (k = 3)) then
        (f134 fu s).bind fun v41_r =>
        f83_j35 fu v41_r.2
      else
        bif (decide (k = 4)) then
          (f135 fu s).bind fun v43_r =>
          f83_j35 fu v43_r.2
        else
          bif (decide (k = 5)) then
            (f136 fu s).bind fun v45_r =>
            f83_j35 fu v45_r
          else
            (f132 fu s 65535).bind fun v46_r =>
            f83_j35 fu v46_r.2
set_option maxRecDepth 100000 in
set_option maxHeartbeats 4000000 in
theorem f83_c {fu : Nat} {k : Int} {s : Str} {out : Bool} (h : f83 fu k s = some out) : Pure Tryz.prog GG 83 [.i (.int .i64 k), .i (.str s)] (.i (.bool out)) := by
  refine Pure.of (NoIds.cons (NoId.i _) (NoIds.cons (NoId.i _) NoIds.nil)) (NoId.i _) (ACall.of_body Tryz.func83 rfl (by kernel_rfl) ?_)
  unfold f83 at h
  refine AWp.seq ?_
  refine AWp.region ?_
  refine AOps.go (op_assign rfl) rfl rfl rfl ?_
  refine AOps.nil ?_
  refine AWp.seqJ (fun (a : Bool) => (⟨[(4, .i (.bool a))], ⟨[], 0, Ext.emp⟩⟩ : St)) (fun a => f83_j35 fu a = some out) ?_ ?_
  · intro a h
    revert h; revert a; intro v34_ok h
    change AWp _ _ _ _ _ _ _ _ (⟨[(4, .i (.bool v34_ok))], ⟨[], 0, Ext.emp⟩⟩ : St)
    replace h : f83_j35 fu v34_ok = some out := h
    unfold f83_j35 at h
    refine AWp.seq ?_
    refine AWp.region ?_
    refine AOps.go (op_move rfl) rfl rfl rfl ?_
    refine AOps.go (op_assign rfl) rfl rfl rfl ?_
    refine AOps.nil ?_
    refine AWp.ret ?_
    exact FnQ.retP (Gh.refl _) (RetV.r1 rfl (.tmp rfl)) (congrArg (fun (out : Bool) => (.i (.bool out) : V)) (Option.some.inj h))
  · refine AWp.seq ?_
    refine AWp.region ?_
    refine AOps.go (op_move rfl) rfl rfl rfl ?_
    refine AOps.nil ?_
    refine AWp.block ?_
    refine AWp.seq ?_
    refine AWp.region ?_
    refine AOps.go (op_cmp rfl rfl rfl) rfl rfl rfl ?_
    refine AOps.go (op_assign rfl) rfl rfl rfl ?_
    refine AOps.nil ?_
    refine AWp.cond rfl (fun hc36 => ?_) (fun hc36 => ?_)
    · replace h := bif_t hc36 h
      refine AWp.region ?_
      refine AOps.go (op_move rfl) rfl rfl rfl ?_
      obtain ⟨v37_r, h_v37_r, h⟩ := bind_some h
      refine AOps.go (op_call Tryz.func132 rfl rfl rfl (f132_c h_v37_r _)) rfl rfl rfl ?_
      refine AOps.go (op_move rfl) rfl rfl rfl ?_
      refine AOps.go (op_extract rfl rfl) rfl rfl rfl ?_
      refine AOps.go (op_extract rfl rfl) rfl rfl rfl ?_
      refine AOps.go (op_assign rfl) rfl rfl rfl ?_
      refine AOps.fin (st' := ⟨[(4, .i (.bool v37_r.2))], ⟨[], 0, Ext.emp⟩⟩) (Gh.by [] rfl (.cons rfl (.i _) (.nil)) (.nil)) ?_
      exact ⟨v37_r.2, h, Gh.by [] rfl (.cons rfl (.i _) (.nil)) (.nil)⟩
    · replace h := bif_f hc36 h
      refine AWp.seq ?_
      refine AWp.region ?_
      refine AOps.go (op_cmp rfl rfl rfl) rfl rfl rfl ?_
      refine AOps.go (op_assign rfl) rfl rfl rfl ?_
      refine AOps.nil ?_
      refine AWp.cond rfl (fun hc38 => ?_) (fun hc38 => ?_)
      · replace h := bif_t hc38 h
        refine AWp.region ?_
        refine AOps.go (op_move rfl) rfl rfl rfl ?_
        obtain ⟨v39_r, h_v39_r, h⟩ := bind_some h
        refine AOps.go (op_call Tryz.func133 rfl rfl rfl (f133_c h_v39_r _)) rfl rfl rfl ?_
        refine AOps.go (op_move rfl) rfl rfl rfl ?_
        refine AOps.go (op_extract rfl rfl) rfl rfl rfl ?_
        refine AOps.go (op_extract rfl rfl) rfl rfl rfl ?_
        refine AOps.go (op_assign rfl) rfl rfl rfl ?_
        refine AOps.fin (st' := ⟨[(4, .i (.bool v39_r.2))], ⟨[], 0, Ext.emp⟩⟩) (Gh.by [] rfl (.cons rfl (.i _) (.nil)) (.nil)) ?_
        exact ⟨v39_r.2, h, Gh.by [] rfl (.cons rfl (.i _) (.nil)) (.nil)⟩
      · replace h := bif_f hc38 h
        refine AWp.seq ?_
        refine AWp.region ?_
        refine AOps.go (op_cmp rfl rfl rfl) rfl rfl rfl ?_
        refine AOps.go (op_assign rfl) rfl rfl rfl ?_
        refine AOps.nil ?_
        refine AWp.cond rfl (fun hc40 => ?_) (fun hc40 => ?_)
        · replace h := bif_t hc40 h
          refine AWp.region ?_
          refine AOps.go (op_move rfl) rfl rfl rfl ?_
          obtain ⟨v41_r, h_v41_r, h⟩ := bind_some h
          refine AOps.go (op_call Tryz.func134 rfl rfl rfl (f134_c h_v41_r _)) rfl rfl rfl ?_
          refine AOps.go (op_move rfl) rfl rfl rfl ?_
          refine AOps.go (op_extract rfl rfl) rfl rfl rfl ?_
          refine AOps.go (op_extract rfl rfl) rfl rfl rfl ?_
          refine AOps.go (op_assign rfl) rfl rfl rfl ?_
          refine AOps.fin (st' := ⟨[(4, .i (.bool v41_r.2))], ⟨[], 0, Ext.emp⟩⟩) (Gh.by [] rfl (.cons rfl (.i _) (.nil)) (.nil)) ?_
          exact ⟨v41_r.2, h, Gh.by [] rfl (.cons rfl (.i _) (.nil)) (.nil)⟩
        · replace h := bif_f hc40 h
          refine AWp.seq ?_
          refine AWp.region ?_
          refine AOps.go (op_cmp rfl rfl rfl) rfl rfl rfl ?_
          refine AOps.go (op_assign rfl) rfl rfl rfl ?_
          refine AOps.nil ?_
          refine AWp.cond rfl (fun hc42 => ?_) (fun hc42 => ?_)
          · replace h := bif_t hc42 h
            refine AWp.region ?_
            refine AOps.go (op_move rfl) rfl rfl rfl ?_
            obtain ⟨v43_r, h_v43_r, h⟩ := bind_some h
            refine AOps.go (op_call Tryz.func135 rfl rfl rfl (f135_c h_v43_r _)) rfl rfl rfl ?_
            refine AOps.go (op_move rfl) rfl rfl rfl ?_
            refine AOps.go (op_extract rfl rfl) rfl rfl rfl ?_
            refine AOps.go (op_extract rfl rfl) rfl rfl rfl ?_
            refine AOps.go (op_assign rfl) rfl rfl rfl ?_
            refine AOps.fin (st' := ⟨[(4, .i (.bool v43_r.2))], ⟨[], 0, Ext.emp⟩⟩) (Gh.by [] rfl (.cons rfl (.i _) (.nil)) (.nil)) ?_
            exact ⟨v43_r.2, h, Gh.by [] rfl (.cons rfl (.i _) (.nil)) (.nil)⟩
          · replace h := bif_f hc42 h
            refine AWp.seq ?_
            refine AWp.region ?_
            refine AOps.go (op_cmp rfl rfl rfl) rfl rfl rfl ?_
            refine AOps.go (op_assign rfl) rfl rfl rfl ?_
            refine AOps.nil ?_
            refine AWp.cond rfl (fun hc44 => ?_) (fun hc44 => ?_)
            · replace h := bif_t hc44 h
              refine AWp.region ?_
              refine AOps.go (op_move rfl) rfl rfl rfl ?_
              obtain ⟨v45_r, h_v45_r, h⟩ := bind_some h
              refine AOps.go (op_call Tryz.func136 rfl rfl rfl (f136_c h_v45_r _)) rfl rfl rfl ?_
              refine AOps.go (op_assign rfl) rfl rfl rfl ?_
              refine AOps.fin (st' := ⟨[(4, .i (.bool v45_r))], ⟨[], 0, Ext.emp⟩⟩) (Gh.by [] rfl (.cons rfl (.i _) (.nil)) (.nil)) ?_
              exact ⟨v45_r, h, Gh.by [] rfl (.cons rfl (.i _) (.nil)) (.nil)⟩
            · replace h := bif_f hc44 h
              refine AWp.region ?_
              refine AOps.go (op_move rfl) rfl rfl rfl ?_
              obtain ⟨v46_r, h_v46_r, h⟩ := bind_some h
              refine AOps.go (op_call Tryz.func132 rfl rfl rfl (f132_c h_v46_r _)) rfl rfl rfl ?_
              refine AOps.go (op_move rfl) rfl rfl rfl ?_
              refine AOps.go (op_extract rfl rfl) rfl rfl rfl ?_
              refine AOps.go (op_extract rfl rfl) rfl rfl rfl ?_
              refine AOps.go (op_assign rfl) rfl rfl rfl ?_
              refine AOps.fin (st' := ⟨[(4, .i (.bool v46_r.2))], ⟨[], 0, Ext.emp⟩⟩) (Gh.by [] rfl (.cons rfl (.i _) (.nil)) (.nil)) ?_
              exact ⟨v46_r.2, h, Gh.by [] rfl (.cons rfl (.i _) (.nil)) (.nil)⟩

/- hearth/igd.right -/
def f44_l67 (fu : Nat) (names : (List Str)) (v1_list : (List T_api_Arg)) : Nat → Int → Option (Bool)
  | 0, _ => none
  | m + 1, v52_t16 =>
    bif (decide (v52_t16 < (names.length : Int))) then
      (ix names v52_t16).bind fun v69_y =>
      (f24 fu v1_list v69_y).bind fun v70_r =>
      lt (fun (v74_t34 : Bool) =>
        bif v74_t34 then
          some false
        else
          lt (IntKind.wrap .i64 (v52_t16 + 1)) fun v76_t35 =>
          f44_l67 fu names v1_list m v76_t35) fun j77 =>
      bif (!v70_r.2) then
        j77 true
      else
        (f84 fu v69_y).bind fun v79_r =>
        (f83 fu v79_r v70_r.1).bind fun v80_r =>
        j77 (!v80_r)
    else
      some true
def f44 (fu : Nat) (names : (List Str)) (v1_list : (List T_api_Arg)) : Option (Bool) :=
  bif (!decide ((names.length : Int) = (v1_list.length : Int))) then
    some false
  else
    f44_l67 fu names v1_list fu 0
set_option maxRecDepth 100000 in
set_option maxHeartbeats 4000000 in
theorem f44_c {fu : Nat} {names : (List Str)} {v1_list : (List T_api_Arg)} {out : Bool} (h : f44 fu names v1_list = some out) : Pure Tryz.prog GG 44 [(en_str.vec names), (en_api_Arg.vec v1_list)] (.i (.bool out)) := by
  refine Pure.of (NoIds.cons (NoId.i _) (NoIds.cons (NoId.i _) NoIds.nil)) (NoId.i _) (ACall.of_body Tryz.func44 rfl (by kernel_rfl) ?_)
  unfold f44 at h
  refine AWp.seq ?_
  refine AWp.region ?_
  refine AOps.go (op_assign rfl) rfl rfl rfl ?_
  refine AOps.nil ?_
  refine AWp.seq ?_
  refine AWp.seq ?_
  refine AWp.region ?_
  refine AOps.go (op_move rfl) rfl rfl rfl ?_
  refine AOps.go (op_len_vec rfl U26 rfl) rfl rfl rfl ?_
  refine AOps.go (op_move rfl) rfl rfl rfl ?_
  refine AOps.go (op_len_vec rfl U29 rfl) rfl rfl rfl ?_
  refine AOps.go (op_cmp rfl rfl rfl) rfl rfl rfl ?_
  refine AOps.fin (st' := ⟨[(0, (en_str.vec names)), (1, (en_api_Arg.vec v1_list)), (13, .i (.bool (!decide ((names.length : Int) = (v1_list.length : Int)))))], ⟨[], 0, Ext.emp⟩⟩) (Gh.by [] rfl (.cons rfl (.i _) (.cons rfl (.i _) (.cons rfl (.i _) (.nil)))) (.nil)) ?_
  refine AWp.cond rfl (fun hc39 => ?_) (fun hc39 => ?_)
  · replace h := bif_t hc39 h
    refine AWp.seq ?_
    refine AWp.region ?_
    refine AOps.go (op_assign rfl) rfl rfl rfl ?_
    refine AOps.nil ?_
    refine AWp.ret ?_
    exact FnQ.retP (Gh.refl _) (RetV.r1 rfl (.tmp rfl)) (congrArg (fun (out : Bool) => (.i (.bool out) : V)) (Option.some.inj h))
  · replace h := bif_f hc39 h
    refine AWp.skip ?_
    refine AWp.seq ?_
    refine AWp.seq ?_
    refine AWp.region ?_
    refine AOps.go (op_move rfl) rfl rfl rfl ?_
    refine AOps.go (op_len_vec rfl U26 rfl) rfl rfl rfl ?_
    refine AOps.go (op_move rfl) rfl rfl rfl ?_
    refine AOps.fin (st' := ⟨[(1, (en_api_Arg.vec v1_list)), (14, (en_str.vec names)), (15, .i (.int .i64 (names.length : Int))), (16, .i (.int .i64 0))], ⟨[], 0, Ext.emp⟩⟩) (Gh.by [] rfl (.cons rfl (.i _) (.cons rfl (.i _) (.cons rfl (.i _) (.cons rfl (.i _) (.nil))))) (.nil)) ?_
    refine AWp.block ?_
    refine AWp.loopJ (fun (a : Int) => (⟨[(1, (en_api_Arg.vec v1_list)), (14, (en_str.vec names)), (15, .i (.int .i64 (names.length : Int))), (16, .i (.int .i64 a))], ⟨[], 0, Ext.emp⟩⟩ : St)) (fun m a => f44_l67 fu names v1_list m a = some out) fu 0 h (Gh.by [] rfl (.cons rfl (.i _) (.cons rfl (.i _) (.cons rfl (.i _) (.cons rfl (.i _) (.nil))))) (.nil)) (fun a h => by cases h) ?_
    intro m a h
    revert h; revert a; intro v52_t16 h
    change AWp _ _ _ _ _ _ _ _ (⟨[(1, (en_api_Arg.vec v1_list)), (14, (en_str.vec names)), (15, .i (.int .i64 (names.length : Int))), (16, .i (.int .i64 v52_t16))], ⟨[], 0, Ext.emp⟩⟩ : St)
    replace h : f44_l67 fu names v1_list (m + 1) v52_t16 = some out := h
    rw [f44_l67] at h
    refine AWp.seq ?_
    refine AWp.region ?_
    refine AOps.go (op_cmp rfl rfl rfl) rfl rfl rfl ?_
    refine AOps.nil ?_
    refine AWp.seq ?_
    refine AWp.cond rfl (fun hc68 => ?_) (fun hc68 => ?_)
    · replace h := bif_t hc68 h
      refine AWp.skip ?_
      refine AWp.seq ?_
      refine AWp.block ?_
      refine AWp.seq ?_
      refine AWp.region ?_
      obtain ⟨v69_y, h_v69_y, h⟩ := bind_some h
      refine AOps.go (op_indexAddr_vec ST26 rfl rfl (ix_some h_v69_y).1 (ix_some h_v69_y).2.2) rfl rfl rfl ?_
      refine AOps.go (op_load_vp L9 rfl (En.cell (f := 0) en_str (ix_some h_v69_y).2.1 rfl rfl)) rfl rfl rfl ?_
      refine AOps.go (op_assign rfl) rfl rfl rfl ?_
      refine AOps.fin (st' := ⟨[(1, (en_api_Arg.vec v1_list)), (6, .i (.str v69_y)), (14, (en_str.vec names)), (15, .i (.int .i64 (names.length : Int))), (16, .i (.int .i64 v52_t16))], ⟨[], 0, Ext.emp⟩⟩) (Gh.by [] rfl (.cons rfl (.i _) (.cons rfl (.i _) (.cons rfl (.i _) (.cons rfl (.i _) (.cons rfl (.i _) (.nil)))))) (.nil)) ?_
      refine AWp.seq ?_
      refine AWp.region ?_
      refine AOps.go (op_move rfl) rfl rfl rfl ?_
      refine AOps.go (op_move rfl) rfl rfl rfl ?_
      obtain ⟨v70_r, h_v70_r, h⟩ := bind_some h
      refine AOps.go (op_call Tryz.func24 rfl rfl rfl (f24_c h_v70_r _)) rfl rfl rfl ?_
      refine AOps.go (op_move rfl) rfl rfl rfl ?_
      refine AOps.go (op_extract rfl rfl) rfl rfl rfl ?_
      refine AOps.go (op_extract rfl rfl) rfl rfl rfl ?_
      refine AOps.go (op_assign rfl) rfl rfl rfl ?_
      refine AOps.go (op_assign rfl) rfl rfl rfl ?_
      refine AOps.fin (st' := ⟨[(1, (en_api_Arg.vec v1_list)), (6, .i (.str v69_y)), (7, .i (.str v70_r.1)), (8, .i (.bool v70_r.2)), (14, (en_str.vec names)), (15, .i (.int .i64 (names.length : Int))), (16, .i (.int .i64 v52_t16))], ⟨[], 0, Ext.emp⟩⟩) (Gh.by [] rfl (.cons rfl (.i _) (.cons rfl (.i _) (.cons rfl (.i _) (.cons rfl (.i _) (.cons rfl (.i _) (.cons rfl (.i _) (.cons rfl (.i _) (.nil)))))))) (.nil)) ?_
      obtain ⟨j77, hj_j77, h⟩ := lt_some h
      refine AWp.seqJ (fun (a : Bool) => (⟨[(1, (en_api_Arg.vec v1_list)), (14, (en_str.vec names)), (15, .i (.int .i64 (names.length : Int))), (16, .i (.int .i64 v52_t16)), (34, .i (.bool a))], ⟨[], 0, Ext.emp⟩⟩ : St)) (fun a => j77 a = some out) ?_ ?_
      · intro a h
        revert h; revert a; intro v74_t34 h
        change AWp _ _ _ _ _ _ _ _ (⟨[(1, (en_api_Arg.vec v1_list)), (14, (en_str.vec names)), (15, .i (.int .i64 (names.length : Int))), (16, .i (.int .i64 v52_t16)), (34, .i (.bool v74_t34))], ⟨[], 0, Ext.emp⟩⟩ : St)
        replace h := (congrFun hj_j77 v74_t34).trans h
        refine AWp.cond rfl (fun hc75 => ?_) (fun hc75 => ?_)
        · replace h := bif_t hc75 h
          refine AWp.seq ?_
          refine AWp.region ?_
          refine AOps.go (op_assign rfl) rfl rfl rfl ?_
          refine AOps.nil ?_
          refine AWp.ret ?_
          exact FnQ.retP (Gh.refl _) (RetV.r1 rfl (.tmp rfl)) (congrArg (fun (out : Bool) => (.i (.bool out) : V)) (Option.some.inj h))
        · replace h := bif_f hc75 h
          refine AWp.skip ?_
          refine AWp.region ?_
          obtain ⟨v76_t35, h_v76_t35, h⟩ := lt_some h
          refine AOps.go (op_arith rfl rfl (congrArg some h_v76_t35)) rfl rfl rfl ?_
          refine AOps.go (op_move rfl) rfl rfl rfl ?_
          refine AOps.nil ?_
          exact ⟨v76_t35, h, Gh.by [] rfl (.cons rfl (.i _) (.cons rfl (.i _) (.cons rfl (.i _) (.cons rfl (.i _) (.nil))))) (.nil)⟩
      · refine AWp.region ?_
        refine AOps.go (op_move rfl) rfl rfl rfl ?_
        refine AOps.go (op_not rfl) rfl rfl rfl ?_
        refine AOps.go (op_move rfl) rfl rfl rfl ?_
        rcases Bool.eq_false_or_eq_true (!v70_r.2) with hc78 | hc78
        · replace h := bif_t hc78 h
          refine AOps.goF rfl rfl rfl hc78 rfl rfl rfl ?_
          refine AOps.goF rfl rfl rfl hc78 rfl rfl rfl ?_
          refine AOps.goF rfl rfl rfl hc78 rfl rfl rfl ?_
          refine AOps.goF rfl rfl rfl hc78 rfl rfl rfl ?_
          refine AOps.goF rfl rfl rfl hc78 rfl rfl rfl ?_
          refine AOps.go (op_pick_true' rfl hc78 rfl) rfl rfl rfl ?_
          refine AOps.fin (st' := ⟨[(1, (en_api_Arg.vec v1_list)), (14, (en_str.vec names)), (15, .i (.int .i64 (names.length : Int))), (16, .i (.int .i64 v52_t16)), (29, .junk), (30, .junk), (31, .junk), (32, .junk), (33, .junk), (34, .i (.bool true))], ⟨[], 0, Ext.emp⟩⟩) (Gh.by [] rfl (.cons rfl (.i _) (.cons rfl (.i _) (.cons rfl (.i _) (.cons rfl (.i _) (.cons rfl (.junk) (.cons rfl (.junk) (.cons rfl (.junk) (.cons rfl (.junk) (.cons rfl (.junk) (.cons rfl (.i _) (.nil))))))))))) (.nil)) ?_
          exact ⟨true, h, Gh.by [] rfl (.cons rfl (.i _) (.cons rfl (.i _) (.cons rfl (.i _) (.cons rfl (.i _) (.cons rfl (.i _) (.nil)))))) (.nil)⟩
        · replace h := bif_f hc78 h
          refine AOps.goT (op_move rfl) rfl rfl rfl hc78 rfl rfl rfl ?_
          obtain ⟨v79_r, h_v79_r, h⟩ := bind_some h
          refine AOps.goT (op_call Tryz.func84 rfl rfl rfl (f84_c h_v79_r _)) rfl rfl rfl hc78 rfl rfl rfl ?_
          refine AOps.goT (op_move rfl) rfl rfl rfl hc78 rfl rfl rfl ?_
          obtain ⟨v80_r, h_v80_r, h⟩ := bind_some h
          refine AOps.goT (op_call Tryz.func83 rfl rfl rfl (f83_c h_v80_r _)) rfl rfl rfl hc78 rfl rfl rfl ?_
          refine AOps.goT (op_not rfl) rfl rfl rfl hc78 rfl rfl rfl ?_
          refine AOps.go (op_pick_false' rfl hc78 rfl) rfl rfl rfl ?_
          refine AOps.fin (st' := ⟨[(1, (en_api_Arg.vec v1_list)), (14, (en_str.vec names)), (15, .i (.int .i64 (names.length : Int))), (16, .i (.int .i64 v52_t16)), (29, .i (.str v69_y)), (30, .i (.int .i64 v79_r)), (31, .i (.str v70_r.1)), (32, .i (.bool v80_r)), (33, .i (.bool (!v80_r))), (34, .i (.bool (!v80_r)))], ⟨[], 0, Ext.emp⟩⟩) (Gh.by [] rfl (.cons rfl (.i _) (.cons rfl (.i _) (.cons rfl (.i _) (.cons rfl (.i _) (.cons rfl (.i _) (.cons rfl (.i _) (.cons rfl (.i _) (.cons rfl (.i _) (.cons rfl (.i _) (.cons rfl (.i _) (.nil))))))))))) (.nil)) ?_
          exact ⟨(!v80_r), h, Gh.by [] rfl (.cons rfl (.i _) (.cons rfl (.i _) (.cons rfl (.i _) (.cons rfl (.i _) (.cons rfl (.i _) (.nil)))))) (.nil)⟩
    · replace h := bif_f hc68 h
      refine AWp.exit ?_
      refine AWp.seq ?_
      refine AWp.region ?_
      refine AOps.go (op_assign rfl) rfl rfl rfl ?_
      refine AOps.nil ?_
      refine AWp.ret ?_
      exact FnQ.retP (Gh.refl _) (RetV.r1 rfl (.tmp rfl)) (congrArg (fun (out : Bool) => (.i (.bool out) : V)) (Option.some.inj h))

/- (hearth/igd.inputs).text -/
def f85 (fu : Nat) (in_call : T_api_Call) (in_scene_Conf : T_api_Config) (in_scene_Who : Int) (in_scene_Now : Int) (name : Str) (b0_conf : T_api_Config) (b0_update : Int) (b1_most : Int) : Option (Str) :=
  (f24 fu in_call.Args name).bind fun v1_r =>
  some v1_r.1
set_option maxRecDepth 100000 in
set_option maxHeartbeats 4000000 in
theorem f85_c {fu : Nat} {in_call : T_api_Call} {in_scene_Conf : T_api_Config} {in_scene_Who : Int} {in_scene_Now : Int} {name : Str} {b0_conf : T_api_Config} {b0_update : Int} {b1_most : Int} {out : Str} (h : f85 fu in_call in_scene_Conf in_scene_Who in_scene_Now name b0_conf b0_update b1_most = some out) : ACall Tryz.prog GG 85 [.agg [.i (.str in_call.Service), .i (.str in_call.Action), (en_api_Arg.vec in_call.Args), .p 0 0, .i (.int .u8 in_scene_Conf.LanMAC.x_e0), .i (.int .u8 in_scene_Conf.LanMAC.x_e1), .i (.int .u8 in_scene_Conf.LanMAC.x_e2), .i (.int .u8 in_scene_Conf.LanMAC.x_e3), .i (.int .u8 in_scene_Conf.LanMAC.x_e4), .i (.int .u8 in_scene_Conf.LanMAC.x_e5), .i (.int .u8 in_scene_Conf.WanMAC.x_e0), .i (.int .u8 in_scene_Conf.WanMAC.x_e1), .i (.int .u8 in_scene_Conf.WanMAC.x_e2), .i (.int .u8 in_scene_Conf.WanMAC.x_e3), .i (.int .u8 in_scene_Conf.WanMAC.x_e4), .i (.int .u8 in_scene_Conf.WanMAC.x_e5), .i (.int .u8 in_scene_Conf.HopMAC.x_e0), .i (.int .u8 in_scene_Conf.HopMAC.x_e1), .i (.int .u8 in_scene_Conf.HopMAC.x_e2), .i (.int .u8 in_scene_Conf.HopMAC.x_e3), .i (.int .u8 in_scene_Conf.HopMAC.x_e4), .i (.int .u8 in_scene_Conf.HopMAC.x_e5), .i (.int .u32 in_scene_Conf.LanAddr), .i (.int .u32 in_scene_Conf.WanAddr), .i (.int .i64 in_scene_Conf.LanBits), .i (.int .i64 in_scene_Conf.MaxSessions), .i (.int .i64 in_scene_Conf.MaxMaps), .i (.int .i64 in_scene_Conf.MaxConns), .i (.int .i64 in_scene_Conf.MaxSubs), (en_api_Forward.vec in_scene_Conf.Forwards), .i (.int .u32 in_scene_Conf.DMZ), .i (.str in_scene_Conf.UUID), .i (.int .u32 in_scene_Who), .i (.int .u64 in_scene_Now)], .i (.str name)] ⟨[(0, [.i (.int .u8 b0_conf.LanMAC.x_e0), .i (.int .u8 b0_conf.LanMAC.x_e1), .i (.int .u8 b0_conf.LanMAC.x_e2), .i (.int .u8 b0_conf.LanMAC.x_e3), .i (.int .u8 b0_conf.LanMAC.x_e4), .i (.int .u8 b0_conf.LanMAC.x_e5), .i (.int .u8 b0_conf.WanMAC.x_e0), .i (.int .u8 b0_conf.WanMAC.x_e1), .i (.int .u8 b0_conf.WanMAC.x_e2), .i (.int .u8 b0_conf.WanMAC.x_e3), .i (.int .u8 b0_conf.WanMAC.x_e4), .i (.int .u8 b0_conf.WanMAC.x_e5), .i (.int .u8 b0_conf.HopMAC.x_e0), .i (.int .u8 b0_conf.HopMAC.x_e1), .i (.int .u8 b0_conf.HopMAC.x_e2), .i (.int .u8 b0_conf.HopMAC.x_e3), .i (.int .u8 b0_conf.HopMAC.x_e4), .i (.int .u8 b0_conf.HopMAC.x_e5), .i (.int .u32 b0_conf.LanAddr), .i (.int .u32 b0_conf.WanAddr), .i (.int .i64 b0_conf.LanBits), .i (.int .i64 b0_conf.MaxSessions), .i (.int .i64 b0_conf.MaxMaps), .i (.int .i64 b0_conf.MaxConns), .i (.int .i64 b0_conf.MaxSubs), (en_api_Forward.vec b0_conf.Forwards), .i (.int .u32 b0_conf.DMZ), .i (.str b0_conf.UUID), .p 1 0, .i (.int .u32 b0_update)]), (1, [.i (.val (.slice none 0 0)), .i (.int .i64 b1_most), .i (.fn (.func 42) [] [])])], 2, Ext.emp⟩ (EqK (.i (.str out)) ⟨[(0, [.i (.int .u8 b0_conf.LanMAC.x_e0), .i (.int .u8 b0_conf.LanMAC.x_e1), .i (.int .u8 b0_conf.LanMAC.x_e2), .i (.int .u8 b0_conf.LanMAC.x_e3), .i (.int .u8 b0_conf.LanMAC.x_e4), .i (.int .u8 b0_conf.LanMAC.x_e5), .i (.int .u8 b0_conf.WanMAC.x_e0), .i (.int .u8 b0_conf.WanMAC.x_e1), .i (.int .u8 b0_conf.WanMAC.x_e2), .i (.int .u8 b0_conf.WanMAC.x_e3), .i (.int .u8 b0_conf.WanMAC.x_e4), .i (.int .u8 b0_conf.WanMAC.x_e5), .i (.int .u8 b0_conf.HopMAC.x_e0), .i (.int .u8 b0_conf.HopMAC.x_e1), .i (.int .u8 b0_conf.HopMAC.x_e2), .i (.int .u8 b0_conf.HopMAC.x_e3), .i (.int .u8 b0_conf.HopMAC.x_e4), .i (.int .u8 b0_conf.HopMAC.x_e5), .i (.int .u32 b0_conf.LanAddr), .i (.int .u32 b0_conf.WanAddr), .i (.int .i64 b0_conf.LanBits), .i (.int .i64 b0_conf.MaxSessions), .i (.int .i64 b0_conf.MaxMaps), .i (.int .i64 b0_conf.MaxConns), .i (.int .i64 b0_conf.MaxSubs), (en_api_Forward.vec b0_conf.Forwards), .i (.int .u32 b0_conf.DMZ), .i (.str b0_conf.UUID), .p 1 0, .i (.int .u32 b0_update)]), (1, [.i (.val (.slice none 0 0)), .i (.int .i64 b1_most), .i (.fn (.func 42) [] [])])], 2, Ext.emp⟩) := by
  refine ACall.of_body Tryz.func85 rfl (by kernel_rfl) ?_
  unfold f85 at h
  refine AWp.seq ?_
  refine AWp.region ?_
  refine AOps.go (op_box rfl rfl) rfl rfl rfl ?_
  refine AOps.go (op_assign rfl) rfl rfl rfl ?_
  refine AOps.nil ?_
  refine AWp.seq ?_
  refine AWp.region ?_
  refine AOps.go (op_fieldAddr_p F113_0 rfl) rfl rfl rfl ?_
  refine AOps.go (op_fieldAddr_p F44_2 rfl) rfl rfl rfl ?_
  refine AOps.go (op_load_p L29 rfl rfl rfl) rfl rfl rfl ?_
  refine AOps.go (op_move rfl) rfl rfl rfl ?_
  obtain ⟨v1_r, h_v1_r, h⟩ := bind_some h
  refine AOps.go (op_call Tryz.func24 rfl rfl rfl (f24_c h_v1_r _)) rfl rfl rfl ?_
  refine AOps.go (op_move rfl) rfl rfl rfl ?_
  refine AOps.go (op_extract rfl rfl) rfl rfl rfl ?_
  refine AOps.go (op_extract rfl rfl) rfl rfl rfl ?_
  refine AOps.go (op_assign rfl) rfl rfl rfl ?_
  refine AOps.go (op_assign rfl) rfl rfl rfl ?_
  refine AOps.fin (st' := ⟨[(5, .i (.str v1_r.1))], ⟨[(0, [.i (.int .u8 b0_conf.LanMAC.x_e0), .i (.int .u8 b0_conf.LanMAC.x_e1), .i (.int .u8 b0_conf.LanMAC.x_e2), .i (.int .u8 b0_conf.LanMAC.x_e3), .i (.int .u8 b0_conf.LanMAC.x_e4), .i (.int .u8 b0_conf.LanMAC.x_e5), .i (.int .u8 b0_conf.WanMAC.x_e0), .i (.int .u8 b0_conf.WanMAC.x_e1), .i (.int .u8 b0_conf.WanMAC.x_e2), .i (.int .u8 b0_conf.WanMAC.x_e3), .i (.int .u8 b0_conf.WanMAC.x_e4), .i (.int .u8 b0_conf.WanMAC.x_e5), .i (.int .u8 b0_conf.HopMAC.x_e0), .i (.int .u8 b0_conf.HopMAC.x_e1), .i (.int .u8 b0_conf.HopMAC.x_e2), .i (.int .u8 b0_conf.HopMAC.x_e3), .i (.int .u8 b0_conf.HopMAC.x_e4), .i (.int .u8 b0_conf.HopMAC.x_e5), .i (.int .u32 b0_conf.LanAddr), .i (.int .u32 b0_conf.WanAddr), .i (.int .i64 b0_conf.LanBits), .i (.int .i64 b0_conf.MaxSessions), .i (.int .i64 b0_conf.MaxMaps), .i (.int .i64 b0_conf.MaxConns), .i (.int .i64 b0_conf.MaxSubs), (en_api_Forward.vec b0_conf.Forwards), .i (.int .u32 b0_conf.DMZ), .i (.str b0_conf.UUID), .p 1 0, .i (.int .u32 b0_update)]), (1, [.i (.val (.slice none 0 0)), .i (.int .i64 b1_most), .i (.fn (.func 42) [] [])])], 3, Ext.emp⟩⟩) (Gh.by [] rfl (.cons rfl (.i _) (.nil)) (.cons rfl rfl (.cons (.i _) (.cons (.i _) (.cons (.i _) (.cons (.i _) (.cons (.i _) (.cons (.i _) (.cons (.i _) (.cons (.i _) (.cons (.i _) (.cons (.i _) (.cons (.i _) (.cons (.i _) (.cons (.i _) (.cons (.i _) (.cons (.i _) (.cons (.i _) (.cons (.i _) (.cons (.i _) (.cons (.i _) (.cons (.i _) (.cons (.i _) (.cons (.i _) (.cons (.i _) (.cons (.i _) (.cons (.i _) (.cons (.i _) (.cons (.i _) (.cons (.i _) (.cons (.pB rfl) (.cons (.i _) (.nil _ _))))))))))))))))))))))))))))))) (.cons rfl rfl (.ofI rfl) (.nil)))) ?_
  refine AWp.seq ?_
  refine AWp.region ?_
  refine AOps.go (op_move rfl) rfl rfl rfl ?_
  refine AOps.go (op_assign rfl) rfl rfl rfl ?_
  refine AOps.nil ?_
  refine AWp.ret ?_
  exact FnQ.retE [0, 1] (st' := ⟨[(4, .i (.str v1_r.1))], ⟨[(0, [.i (.int .u8 b0_conf.LanMAC.x_e0), .i (.int .u8 b0_conf.LanMAC.x_e1), .i (.int .u8 b0_conf.LanMAC.x_e2), .i (.int .u8 b0_conf.LanMAC.x_e3), .i (.int .u8 b0_conf.LanMAC.x_e4), .i (.int .u8 b0_conf.LanMAC.x_e5), .i (.int .u8 b0_conf.WanMAC.x_e0), .i (.int .u8 b0_conf.WanMAC.x_e1), .i (.int .u8 b0_conf.WanMAC.x_e2), .i (.int .u8 b0_conf.WanMAC.x_e3), .i (.int .u8 b0_conf.WanMAC.x_e4), .i (.int .u8 b0_conf.WanMAC.x_e5), .i (.int .u8 b0_conf.HopMAC.x_e0), .i (.int .u8 b0_conf.HopMAC.x_e1), .i (.int .u8 b0_conf.HopMAC.x_e2), .i (.int .u8 b0_conf.HopMAC.x_e3), .i (.int .u8 b0_conf.HopMAC.x_e4), .i (.int .u8 b0_conf.HopMAC.x_e5), .i (.int .u32 b0_conf.LanAddr), .i (.int .u32 b0_conf.WanAddr), .i (.int .i64 b0_conf.LanBits), .i (.int .i64 b0_conf.MaxSessions), .i (.int .i64 b0_conf.MaxMaps), .i (.int .i64 b0_conf.MaxConns), .i (.int .i64 b0_conf.MaxSubs), (en_api_Forward.vec b0_conf.Forwards), .i (.int .u32 b0_conf.DMZ), .i (.str b0_conf.UUID), .p 1 0, .i (.int .u32 b0_update)]), (1, [.i (.val (.slice none 0 0)), .i (.int .i64 b1_most), .i (.fn (.func 42) [] [])])], 2, Ext.emp⟩⟩) (Gh.by [0, 1] rfl (.cons rfl (.i _) (.nil)) (.cons rfl rfl (.cons (.i _) (.cons (.i _) (.cons (.i _) (.cons (.i _) (.cons (.i _) (.cons (.i _) (.cons (.i _) (.cons (.i _) (.cons (.i _) (.cons (.i _) (.cons (.i _) (.cons (.i _) (.cons (.i _) (.cons (.i _) (.cons (.i _) (.cons (.i _) (.cons (.i _) (.cons (.i _) (.cons (.i _) (.cons (.i _) (.cons (.i _) (.cons (.i _) (.cons (.i _) (.cons (.i _) (.cons (.i _) (.cons (.i _) (.cons (.i _) (.cons (.i _) (.cons (.pB rfl) (.cons (.i _) (.nil _ _))))))))))))))))))))))))))))))) (.cons rfl rfl (.ofI rfl) (.nil)))) (RetV.r1 rfl (.tmp rfl)) (congrArg (fun (out : Str) => (.i (.str out) : V)) (Option.some.inj h)) (congrArg (fun (out : Str) => (⟨[(0, [.i (.int .u8 b0_conf.LanMAC.x_e0), .i (.int .u8 b0_conf.LanMAC.x_e1), .i (.int .u8 b0_conf.LanMAC.x_e2), .i (.int .u8 b0_conf.LanMAC.x_e3), .i (.int .u8 b0_conf.LanMAC.x_e4), .i (.int .u8 b0_conf.LanMAC.x_e5), .i (.int .u8 b0_conf.WanMAC.x_e0), .i (.int .u8 b0_conf.WanMAC.x_e1), .i (.int .u8 b0_conf.WanMAC.x_e2), .i (.int .u8 b0_conf.WanMAC.x_e3), .i (.int .u8 b0_conf.WanMAC.x_e4), .i (.int .u8 b0_conf.WanMAC.x_e5), .i (.int .u8 b0_conf.HopMAC.x_e0), .i (.int .u8 b0_conf.HopMAC.x_e1), .i (.int .u8 b0_conf.HopMAC.x_e2), .i (.int .u8 b0_conf.HopMAC.x_e3), .i (.int .u8 b0_conf.HopMAC.x_e4), .i (.int .u8 b0_conf.HopMAC.x_e5), .i (.int .u32 b0_conf.LanAddr), .i (.int .u32 b0_conf.WanAddr), .i (.int .i64 b0_conf.LanBits), .i (.int .i64 b0_conf.MaxSessions), .i (.int .i64 b0_conf.MaxMaps), .i (.int .i64 b0_conf.MaxConns), .i (.int .i64 b0_conf.MaxSubs), (en_api_Forward.vec b0_conf.Forwards), .i (.int .u32 b0_conf.DMZ), .i (.str b0_conf.UUID), .p 1 0, .i (.int .u32 b0_update)]), (1, [.i (.val (.slice none 0 0)), .i (.int .i64 b1_most), .i (.fn (.func 42) [] [])])], 2, Ext.emp⟩ : Hs)) (Option.some.inj h))

/- hearth/igd.args -/
def f69_l52 (fu : Nat) (v1_list : (List Str)) : Nat → Int → (List T_api_Arg) → Option ((List T_api_Arg))
  | 0, _, _ => none
  | m + 1, v37_i, v38_l0 =>
    lt (IntKind.wrap .i64 (v37_i + 1)) fun v53_t5 =>
    bif (decide (v53_t5 < (v1_list.length : Int))) then
      (ix v1_list v37_i).bind fun v59_y =>
      lt (IntKind.wrap .i64 (v37_i + 1)) fun v60_t18 =>
      (ix v1_list v60_t18).bind fun v61_y =>
      gd (Nat.ble ((v38_l0.length + [(⟨v59_y, v61_y⟩ : T_api_Arg)].length) * 32) 140737488355328) <|
      lt (IntKind.wrap .i64 (v37_i + 2)) fun v63_t10 =>
      f69_l52 fu v1_list m v63_t10 (v38_l0 ++ [(⟨v59_y, v61_y⟩ : T_api_Arg)])
    else
      some v38_l0
def f69 (fu : Nat) (v1_list : (List Str)) : Option ((List T_api_Arg)) :=
  f69_l52 fu v1_list fu 0 ([] : List T_api_Arg)
set_option maxRecDepth 100000 in
set_option maxHeartbeats 4000000 in
theorem f69_c {fu : Nat} {v1_list : (List Str)} {out : (List T_api_Arg)} (h : f69 fu v1_list = some out) : Pure Tryz.prog GG 69 [(en_str.vec v1_list)] ((en_api_Arg.vec out)) := by
  refine Pure.of (NoIds.cons (NoId.i _) NoIds.nil) (NoId.i _) (ACall.of_body Tryz.func69 rfl (by kernel_rfl) ?_)
  unfold f69 at h
  refine AWp.seq ?_
  refine AWp.region ?_
  refine AOps.go (op_assign rfl) rfl rfl rfl ?_
  refine AOps.nil ?_
  refine AWp.seq ?_
  refine AWp.seq ?_
  refine AWp.region ?_
  refine AOps.go (op_assign rfl) rfl rfl rfl ?_
  refine AOps.nil ?_
  refine AWp.block ?_
  refine AWp.loopJ (fun (a : Int × (List T_api_Arg)) => (⟨[(0, (en_str.vec v1_list)), (2, .sl 0 0 a.2.length 2), (3, .i (.int .i64 a.1))], ⟨[(0, (en_api_Arg.cs a.2))], 1, Ext.emp⟩⟩ : St)) (fun m a => f69_l52 fu v1_list m a.1 a.2 = some out) fu (0, ([] : List T_api_Arg)) h (Gh.trans (Gh.nilSl 2 (t := 2) rfl) (Gh.by [0] rfl (.cons rfl (.i _) (.cons rfl (.slB rfl rfl) (.cons rfl (.i _) (.nil)))) (.cons rfl rfl (.mapIeq rfl) (.nil)))) (fun a h => by cases h) ?_
  intro m a h
  obtain ⟨v37_i, v38_l0⟩ := a
  change AWp _ _ _ _ _ _ _ _ (⟨[(0, (en_str.vec v1_list)), (2, .sl 0 0 v38_l0.length 2), (3, .i (.int .i64 v37_i))], ⟨[(0, (en_api_Arg.cs v38_l0))], 1, Ext.emp⟩⟩ : St)
  replace h : f69_l52 fu v1_list (m + 1) v37_i v38_l0 = some out := h
  rw [f69_l52] at h
  refine AWp.seq ?_
  refine AWp.seq ?_
  refine AWp.region ?_
  refine AOps.go (op_move rfl) rfl rfl rfl ?_
  obtain ⟨v53_t5, h_v53_t5, h⟩ := lt_some h
  refine AOps.go (op_arith rfl rfl (congrArg some h_v53_t5)) rfl rfl rfl ?_
  refine AOps.go (op_move rfl) rfl rfl rfl ?_
  refine AOps.go (op_len_vec rfl U26 rfl) rfl rfl rfl ?_
  refine AOps.go (op_cmp rfl rfl rfl) rfl rfl rfl ?_
  refine AOps.fin (st' := ⟨[(0, (en_str.vec v1_list)), (2, .sl 0 0 v38_l0.length 2), (3, .i (.int .i64 v37_i)), (8, .i (.bool (decide (v53_t5 < (v1_list.length : Int)))))], ⟨[(0, (en_api_Arg.cs v38_l0))], 1, Ext.emp⟩⟩) (Gh.by [] rfl (.cons rfl (.i _) (.cons rfl (.slB rfl rfl) (.cons rfl (.i _) (.cons rfl (.i _) (.nil))))) (.cons rfl rfl (.mapIeq rfl) (.nil))) ?_
  refine AWp.cond rfl (fun hc54 => ?_) (fun hc54 => ?_)
  · replace h := bif_t hc54 h
    refine AWp.skip ?_
    refine AWp.seq ?_
    refine AWp.block ?_
    obtain ⟨v59_y, h_v59_y, h⟩ := bind_some h
    obtain ⟨v60_t18, h_v60_t18, h⟩ := lt_some h
    obtain ⟨v61_y, h_v61_y, h⟩ := bind_some h
    obtain ⟨hg62, h⟩ := gd_some h
    refine AWp.drawnG (st' := ⟨[(0, (en_str.vec v1_list)), (2, .sl 1 0 (v38_l0 ++ [(⟨v59_y, v61_y⟩ : T_api_Arg)]).length 2), (3, .i (.int .i64 v37_i))], ⟨[(1, (en_api_Arg.cs (v38_l0 ++ [(⟨v59_y, v61_y⟩ : T_api_Arg)])))], 2, Ext.emp⟩⟩) (fun k => match k with | 0 => (⟨[(0, (en_api_Arg.cs v38_l0))], 1, Ext.emp⟩ : Hs) | _ => (⟨[(1, (en_api_Arg.cs (v38_l0 ++ [(⟨v59_y, v61_y⟩ : T_api_Arg)])))], 2, Ext.emp⟩ : Hs)) 1 rfl rfl (.pure (fun s => op_move rfl) rfl rfl (.pure (fun s => op_move rfl) rfl rfl (.pure (fun s => op_move rfl) rfl rfl (.pure (fun s => op_indexAddr_vec ST26 rfl rfl (ix_some h_v59_y).1 (ix_some h_v59_y).2.2) rfl rfl (.pure (fun s => op_load_vp L9 rfl (En.cell (f := 0) en_str (ix_some h_v59_y).2.1 rfl rfl)) rfl rfl (.pure (fun s => op_move rfl) rfl rfl (.pure (fun s => op_move rfl) rfl rfl (.pure (fun s => op_arith rfl rfl (congrArg some h_v60_t18)) rfl rfl (.pure (fun s => op_indexAddr_vec ST26 rfl rfl (ix_some h_v61_y).1 (ix_some h_v61_y).2.2) rfl rfl (.pure (fun s => op_load_vp L9 rfl (En.cell (f := 0) en_str (ix_some h_v61_y).2.1 rfl rfl)) rfl rfl (.pure (fun s => op_build PL31 Z31 rfl rfl) rfl rfl (.pure (fun s => op_buildSliceV (es := [(⟨v59_y, v61_y⟩ : T_api_Arg)].flatMap en_api_Arg.f) U29 SZ31 Z31 rfl rfl rfl rfl rfl) rfl rfl (.wr (LOp.is (op_appendE en_api_Arg (l := v38_l0) (r := [(⟨v59_y, v61_y⟩ : T_api_Arg)]) rfl AP29_29 rfl rfl rfl (En.sealEq en_api_Arg v38_l0) (En.sealLe en_api_Arg v38_l0) rfl (SrcV.vec _ _ _) rfl hg62) rfl rfl) rfl rfl (.pure (fun s => op_assign rfl) rfl rfl (.nil _ _))))))))))))))) (by kernel_rfl) ?_ ?_
    · exact Gh.by [] rfl (.cons rfl (.i _) (.cons rfl (.slB rfl rfl) (.cons rfl (.i _) (.nil)))) (.cons rfl rfl (.mapIeq rfl) (.nil))
    refine AWp.region ?_
    refine AOps.go (op_move rfl) rfl rfl rfl ?_
    obtain ⟨v63_t10, h_v63_t10, h⟩ := lt_some h
    refine AOps.go (op_arith rfl rfl (congrArg some h_v63_t10)) rfl rfl rfl ?_
    refine AOps.go (op_assign rfl) rfl rfl rfl ?_
    refine AOps.fin (st' := ⟨[(0, (en_str.vec v1_list)), (2, .sl 1 0 (v38_l0 ++ [(⟨v59_y, v61_y⟩ : T_api_Arg)]).length 2), (3, .i (.int .i64 v63_t10))], ⟨[(1, (en_api_Arg.cs (v38_l0 ++ [(⟨v59_y, v61_y⟩ : T_api_Arg)])))], 2, Ext.emp⟩⟩) (Gh.by [] rfl (.cons rfl (.i _) (.cons rfl (.slB rfl rfl) (.cons rfl (.i _) (.nil)))) (.cons rfl rfl (.mapIeq rfl) (.nil))) ?_
    exact ⟨(v63_t10, (v38_l0 ++ [(⟨v59_y, v61_y⟩ : T_api_Arg)])), h, Gh.by [1] rfl (.cons rfl (.i _) (.cons rfl (.slB rfl rfl) (.cons rfl (.i _) (.nil)))) (.cons rfl rfl (.mapIeq rfl) (.nil))⟩
  · replace h := bif_f hc54 h
    refine AWp.exit ?_
    refine AWp.seq ?_
    refine AWp.region ?_
    refine AOps.go (op_move rfl) rfl rfl rfl ?_
    refine AOps.go (op_assign rfl) rfl rfl rfl ?_
    refine AOps.nil ?_
    refine AWp.ret ?_
    exact FnQ.retP ((Gh.trans (Gh.sealed (t := 2) (es := v38_l0.flatMap en_api_Arg.f) rfl rfl (En.sealLe en_api_Arg v38_l0) (En.sealEq en_api_Arg v38_l0)) (Gh.refl _))) (RetV.r1 rfl (.tmp rfl)) (congrArg (fun (out : (List T_api_Arg)) => ((en_api_Arg.vec out) : V)) (Option.some.inj h))

/- internal/strconv.small -/
def f223 (fu : Nat) (i : Int) : Option (Str) :=
  bif (decide (i < 10)) then
    lt (IntKind.wrap .i64 (i + 1)) fun v3_t7 =>
    (sub s_0123456789abcdefghijklmn i v3_t7).bind fun v4_t8 =>
    some v4_t8
  else
    lt (IntKind.wrap .i64 (i * 2)) fun v5_t10 =>
    lt (IntKind.wrap .i64 (i * 2)) fun v6_t12 =>
    lt (IntKind.wrap .i64 (v6_t12 + 2)) fun v7_t13 =>
    (sub s_000102030405060708091011 v5_t10 v7_t13).bind fun v8_t14 =>
    some v8_t14
set_option maxRecDepth 100000 in
set_option maxHeartbeats 4000000 in
theorem f223_c {fu : Nat} {i : Int} {out : Str} (h : f223 fu i = some out) : Pure Tryz.prog GG 223 [.i (.int .i64 i)] (.i (.str out)) := by
  refine Pure.of (NoIds.cons (NoId.i _) NoIds.nil) (NoId.i _) (ACall.of_body Tryz.func223 rfl (by kernel_rfl) ?_)
  unfold f223 at h
  refine AWp.seq ?_
  refine AWp.region ?_
  refine AOps.go (op_assign rfl) rfl rfl rfl ?_
  refine AOps.nil ?_
  refine AWp.seq ?_
  refine AWp.seq ?_
  refine AWp.region ?_
  refine AOps.go (op_move rfl) rfl rfl rfl ?_
  refine AOps.go (op_cmp rfl rfl rfl) rfl rfl rfl ?_
  refine AOps.nil ?_
  refine AWp.cond rfl (fun hc2 => ?_) (fun hc2 => ?_)
  · replace h := bif_t hc2 h
    refine AWp.seq ?_
    refine AWp.region ?_
    refine AOps.go (op_move rfl) rfl rfl rfl ?_
    refine AOps.go (op_move rfl) rfl rfl rfl ?_
    obtain ⟨v3_t7, h_v3_t7, h⟩ := lt_some h
    refine AOps.go (op_arith rfl rfl (congrArg some h_v3_t7)) rfl rfl rfl ?_
    obtain ⟨v4_t8, h_v4_t8, h⟩ := bind_some h
    refine AOps.go (op_slice_str U9 rfl (Bd.of rfl (sub_some h_v4_t8).1) (Bd.of rfl (sub_some h_v4_t8).2.1) (sub_some h_v4_t8).2.2.1 (sub_some h_v4_t8).2.2.2.1 (sub_some h_v4_t8).2.2.2.2.1) rfl rfl rfl ?_
    refine AOps.go (op_assign rfl) rfl rfl rfl ?_
    refine AOps.fin (st' := ⟨[(2, .i (.str v4_t8))], ⟨[], 0, Ext.emp⟩⟩) (Gh.by [] rfl (.cons rfl (.i _) (.nil)) (.nil)) ?_
    refine AWp.ret ?_
    exact FnQ.retP (Gh.refl _) (RetV.r1 rfl (.tmp rfl)) (congrArg (fun (out : Str) => (.i (.str out) : V)) (Option.some.inj h))
  · replace h := bif_f hc2 h
    refine AWp.skip ?_
    refine AWp.seq ?_
    refine AWp.region ?_
    refine AOps.go (op_move rfl) rfl rfl rfl ?_
    obtain ⟨v5_t10, h_v5_t10, h⟩ := lt_some h
    refine AOps.go (op_arith rfl rfl (congrArg some h_v5_t10)) rfl rfl rfl ?_
    refine AOps.go (op_move rfl) rfl rfl rfl ?_
    obtain ⟨v6_t12, h_v6_t12, h⟩ := lt_some h
    refine AOps.go (op_arith rfl rfl (congrArg some h_v6_t12)) rfl rfl rfl ?_
    obtain ⟨v7_t13, h_v7_t13, h⟩ := lt_some h
    refine AOps.go (op_arith rfl rfl (congrArg some h_v7_t13)) rfl rfl rfl ?_
    obtain ⟨v8_t14, h_v8_t14, h⟩ := bind_some h
    refine AOps.go (op_slice_str U9 rfl (Bd.of rfl (sub_some h_v8_t14).1) (Bd.of rfl (sub_some h_v8_t14).2.1) (sub_some h_v8_t14).2.2.1 (sub_some h_v8_t14).2.2.2.1 (sub_some h_v8_t14).2.2.2.2.1) rfl rfl rfl ?_
    refine AOps.go (op_assign rfl) rfl rfl rfl ?_
    refine AOps.fin (st' := ⟨[(2, .i (.str v8_t14))], ⟨[], 0, Ext.emp⟩⟩) (Gh.by [] rfl (.cons rfl (.i _) (.nil)) (.nil)) ?_
    refine AWp.ret ?_
    exact FnQ.retP (Gh.refl _) (RetV.r1 rfl (.tmp rfl)) (congrArg (fun (out : Str) => (.i (.str out) : V)) (Option.some.inj h))

/- math/bits.Len64 -/
def f269_j38 (fu : Nat) (v32_x : Int) (v33_n : Int) : Option (Int) :=
  lt (IntKind.wrap .u8 v32_x) fun v34_t21 =>
  (ix s_x v34_t21).bind fun v35_c =>
  lt (IntKind.wrap .i64 (v35_c.toNat : Int)) fun v36_t23 =>
  lt (IntKind.wrap .i64 (v33_n + v36_t23)) fun v37_t24 =>
  some v37_t24
def f269_j42 (fu : Nat) (v27_x : Int) (v28_n : Int) : Option (Int) :=
  bif (decide (256 ≤ v27_x)) then
    lt (Int.fdiv v27_x (2 ^ (min ((8) : Int).toNat (IntKind.bits .u64)))) fun v40_t16 =>
    lt (IntKind.wrap .i64 (v28_n + 8)) fun v41_t18 =>
    f269_j38 fu v40_t16 v41_t18
  else
    f269_j38 fu v27_x v28_n
def f269_j46 (fu : Nat) (v22_x : Int) (v23_n : Int) : Option (Int) :=
  bif (decide (65536 ≤ v22_x)) then
    lt (Int.fdiv v22_x (2 ^ (min ((16) : Int).toNat (IntKind.bits .u64)))) fun v44_t10 =>
    lt (IntKind.wrap .i64 (v23_n + 16)) fun v45_t12 =>
    f269_j42 fu v44_t10 v45_t12
  else
    f269_j42 fu v22_x v23_n
def f269 (fu : Nat) (x : Int) : Option (Int) :=
  bif (decide (4294967296 ≤ x)) then
    lt (Int.fdiv x (2 ^ (min ((32) : Int).toNat (IntKind.bits .u64)))) fun v48_t6 =>
    f269_j46 fu v48_t6 32
  else
    f269_j46 fu x 0
set_option maxRecDepth 100000 in
set_option maxHeartbeats 4000000 in
theorem f269_c {fu : Nat} {x : Int} {out : Int} (h : f269 fu x = some out) : Pure Tryz.prog GG 269 [.i (.int .u64 x)] (.i (.int .i64 out)) := by
  refine Pure.of (NoIds.cons (NoId.i _) NoIds.nil) (NoId.i _) (ACall.of_body Tryz.func269 rfl (by kernel_rfl) ?_)
  unfold f269 at h
  refine AWp.seq ?_
  refine AWp.region ?_
  refine AOps.go (op_assign rfl) rfl rfl rfl ?_
  refine AOps.nil ?_
  refine AWp.seqJ (fun (a : Int × Int) => (⟨[(0, .i (.int .u64 a.1)), (2, .i (.int .i64 a.2))], ⟨[], 0, Ext.emp⟩⟩ : St)) (fun a => f269_j46 fu a.1 a.2 = some out) ?_ ?_
  · intro a h
    obtain ⟨v22_x, v23_n⟩ := a
    change AWp _ _ _ _ _ _ _ _ (⟨[(0, .i (.int .u64 v22_x)), (2, .i (.int .i64 v23_n))], ⟨[], 0, Ext.emp⟩⟩ : St)
    replace h : f269_j46 fu v22_x v23_n = some out := h
    unfold f269_j46 at h
    refine AWp.seqJ (fun (a : Int × Int) => (⟨[(0, .i (.int .u64 a.1)), (2, .i (.int .i64 a.2))], ⟨[], 0, Ext.emp⟩⟩ : St)) (fun a => f269_j42 fu a.1 a.2 = some out) ?_ ?_
    · intro a h
      obtain ⟨v27_x, v28_n⟩ := a
      change AWp _ _ _ _ _ _ _ _ (⟨[(0, .i (.int .u64 v27_x)), (2, .i (.int .i64 v28_n))], ⟨[], 0, Ext.emp⟩⟩ : St)
      replace h : f269_j42 fu v27_x v28_n = some out := h
      unfold f269_j42 at h
      refine AWp.seqJ (fun (a : Int × Int) => (⟨[(0, .i (.int .u64 a.1)), (2, .i (.int .i64 a.2))], ⟨[], 0, Ext.emp⟩⟩ : St)) (fun a => f269_j38 fu a.1 a.2 = some out) ?_ ?_
      · intro a h
        obtain ⟨v32_x, v33_n⟩ := a
        change AWp _ _ _ _ _ _ _ _ (⟨[(0, .i (.int .u64 v32_x)), (2, .i (.int .i64 v33_n))], ⟨[], 0, Ext.emp⟩⟩ : St)
        replace h : f269_j38 fu v32_x v33_n = some out := h
        unfold f269_j38 at h
        refine AWp.seq ?_
        refine AWp.region ?_
        refine AOps.go (op_move rfl) rfl rfl rfl ?_
        refine AOps.go (op_move rfl) rfl rfl rfl ?_
        obtain ⟨v34_t21, h_v34_t21, h⟩ := lt_some h
        refine AOps.go (op_conv_int U40 U5 rfl h_v34_t21) rfl rfl rfl ?_
        obtain ⟨v35_c, h_v35_c, h⟩ := bind_some h
        refine AOps.go (op_index_str U9 rfl rfl (ix_some h_v35_c).1 (ix_some h_v35_c).2.1) rfl rfl rfl ?_
        obtain ⟨v36_t23, h_v36_t23, h⟩ := lt_some h
        refine AOps.go (op_conv_int U5 U3 rfl h_v36_t23) rfl rfl rfl ?_
        obtain ⟨v37_t24, h_v37_t24, h⟩ := lt_some h
        refine AOps.go (op_arith rfl rfl (congrArg some h_v37_t24)) rfl rfl rfl ?_
        refine AOps.go (op_assign rfl) rfl rfl rfl ?_
        refine AOps.fin (st' := ⟨[(2, .i (.int .i64 v37_t24))], ⟨[], 0, Ext.emp⟩⟩) (Gh.by [] rfl (.cons rfl (.i _) (.nil)) (.nil)) ?_
        refine AWp.ret ?_
        exact FnQ.retP (Gh.refl _) (RetV.r1 rfl (.tmp rfl)) (congrArg (fun (out : Int) => (.i (.int .i64 out) : V)) (Option.some.inj h))
      · refine AWp.seq ?_
        refine AWp.region ?_
        refine AOps.go (op_move rfl) rfl rfl rfl ?_
        refine AOps.go (op_cmp rfl rfl rfl) rfl rfl rfl ?_
        refine AOps.nil ?_
        refine AWp.cond rfl (fun hc39 => ?_) (fun hc39 => ?_)
        · replace h := bif_t hc39 h
          refine AWp.seq ?_
          refine AWp.region ?_
          refine AOps.go (op_move rfl) rfl rfl rfl ?_
          obtain ⟨v40_t16, h_v40_t16, h⟩ := lt_some h
          refine AOps.go (op_shr rfl rfl (by decide) h_v40_t16) rfl rfl rfl ?_
          refine AOps.go (op_assign rfl) rfl rfl rfl ?_
          refine AOps.fin (st' := ⟨[(0, .i (.int .u64 v40_t16)), (2, .i (.int .i64 v28_n))], ⟨[], 0, Ext.emp⟩⟩) (Gh.by [] rfl (.cons rfl (.i _) (.cons rfl (.i _) (.nil))) (.nil)) ?_
          refine AWp.region ?_
          refine AOps.go (op_move rfl) rfl rfl rfl ?_
          obtain ⟨v41_t18, h_v41_t18, h⟩ := lt_some h
          refine AOps.go (op_arith rfl rfl (congrArg some h_v41_t18)) rfl rfl rfl ?_
          refine AOps.go (op_assign rfl) rfl rfl rfl ?_
          refine AOps.fin (st' := ⟨[(0, .i (.int .u64 v40_t16)), (2, .i (.int .i64 v41_t18))], ⟨[], 0, Ext.emp⟩⟩) (Gh.by [] rfl (.cons rfl (.i _) (.cons rfl (.i _) (.nil))) (.nil)) ?_
          exact ⟨(v40_t16, v41_t18), h, Gh.by [] rfl (.cons rfl (.i _) (.cons rfl (.i _) (.nil))) (.nil)⟩
        · replace h := bif_f hc39 h
          refine AWp.skip ?_
          exact ⟨(v27_x, v28_n), h, Gh.by [] rfl (.cons rfl (.i _) (.cons rfl (.i _) (.nil))) (.nil)⟩
    · refine AWp.seq ?_
      refine AWp.region ?_
      refine AOps.go (op_move rfl) rfl rfl rfl ?_
      refine AOps.go (op_cmp rfl rfl rfl) rfl rfl rfl ?_
      refine AOps.nil ?_
      refine AWp.cond rfl (fun hc43 => ?_) (fun hc43 => ?_)
      · replace h := bif_t hc43 h
        refine AWp.seq ?_
        refine AWp.region ?_
        refine AOps.go (op_move rfl) rfl rfl rfl ?_
        obtain ⟨v44_t10, h_v44_t10, h⟩ := lt_some h
        refine AOps.go (op_shr rfl rfl (by decide) h_v44_t10) rfl rfl rfl ?_
        refine AOps.go (op_assign rfl) rfl rfl rfl ?_
        refine AOps.fin (st' := ⟨[(0, .i (.int .u64 v44_t10)), (2, .i (.int .i64 v23_n))], ⟨[], 0, Ext.emp⟩⟩) (Gh.by [] rfl (.cons rfl (.i _) (.cons rfl (.i _) (.nil))) (.nil)) ?_
        refine AWp.region ?_
        refine AOps.go (op_move rfl) rfl rfl rfl ?_
        obtain ⟨v45_t12, h_v45_t12, h⟩ := lt_some h
        refine AOps.go (op_arith rfl rfl (congrArg some h_v45_t12)) rfl rfl rfl ?_
        refine AOps.go (op_assign rfl) rfl rfl rfl ?_
        refine AOps.fin (st' := ⟨[(0, .i (.int .u64 v44_t10)), (2, .i (.int .i64 v45_t12))], ⟨[], 0, Ext.emp⟩⟩) (Gh.by [] rfl (.cons rfl (.i _) (.cons rfl (.i _) (.nil))) (.nil)) ?_
        exact ⟨(v44_t10, v45_t12), h, Gh.by [] rfl (.cons rfl (.i _) (.cons rfl (.i _) (.nil))) (.nil)⟩
      · replace h := bif_f hc43 h
        refine AWp.skip ?_
        exact ⟨(v22_x, v23_n), h, Gh.by [] rfl (.cons rfl (.i _) (.cons rfl (.i _) (.nil))) (.nil)⟩
  · refine AWp.seq ?_
    refine AWp.region ?_
    refine AOps.go (op_move rfl) rfl rfl rfl ?_
    refine AOps.go (op_cmp rfl rfl rfl) rfl rfl rfl ?_
    refine AOps.nil ?_
    refine AWp.cond rfl (fun hc47 => ?_) (fun hc47 => ?_)
    · replace h := bif_t hc47 h
      refine AWp.seq ?_
      refine AWp.region ?_
      refine AOps.go (op_move rfl) rfl rfl rfl ?_
      obtain ⟨v48_t6, h_v48_t6, h⟩ := lt_some h
      refine AOps.go (op_shr rfl rfl (by decide) h_v48_t6) rfl rfl rfl ?_
      refine AOps.go (op_assign rfl) rfl rfl rfl ?_
      refine AOps.fin (st' := ⟨[(0, .i (.int .u64 v48_t6))], ⟨[], 0, Ext.emp⟩⟩) (Gh.by [] rfl (.cons rfl (.i _) (.nil)) (.nil)) ?_
      refine AWp.region ?_
      refine AOps.go (op_assign rfl) rfl rfl rfl ?_
      refine AOps.nil ?_
      exact ⟨(v48_t6, 32), h, Gh.by [] rfl (.cons rfl (.i _) (.cons rfl (.i _) (.nil))) (.nil)⟩
    · replace h := bif_f hc47 h
      refine AWp.skip ?_
      exact ⟨(x, 0), h, Gh.by [] rfl (.cons rfl (.i _) (.cons rfl (.i _) (.nil))) (.nil)⟩

/- internal/strconv.log10Pow2 -/
def f268 (fu : Nat) (x : Int) : Option (Int) :=
  lt (IntKind.wrap .i64 (x * 78913)) fun v1_t4 =>
  lt (Int.fdiv v1_t4 (2 ^ (min ((18) : Int).toNat (IntKind.bits .i64)))) fun v2_t5 =>
  some v2_t5
set_option maxRecDepth 100000 in
set_option maxHeartbeats 4000000 in
theorem f268_c {fu : Nat} {x : Int} {out : Int} (h : f268 fu x = some out) : Pure Tryz.prog GG 268 [.i (.int .i64 x)] (.i (.int .i64 out)) := by
  refine Pure.of (NoIds.cons (NoId.i _) NoIds.nil) (NoId.i _) (ACall.of_body Tryz.func268 rfl (by kernel_rfl) ?_)
  unfold f268 at h
  refine AWp.seq ?_
  refine AWp.region ?_
  refine AOps.go (op_assign rfl) rfl rfl rfl ?_
  refine AOps.nil ?_
  refine AWp.seq ?_
  refine AWp.region ?_
  refine AOps.go (op_move rfl) rfl rfl rfl ?_
  obtain ⟨v1_t4, h_v1_t4, h⟩ := lt_some h
  refine AOps.go (op_arith rfl rfl (congrArg some h_v1_t4)) rfl rfl rfl ?_
  obtain ⟨v2_t5, h_v2_t5, h⟩ := lt_some h
  refine AOps.go (op_shr rfl rfl (by decide) h_v2_t5) rfl rfl rfl ?_
  refine AOps.go (op_assign rfl) rfl rfl rfl ?_
  refine AOps.fin (st' := ⟨[(2, .i (.int .i64 v2_t5))], ⟨[], 0, Ext.emp⟩⟩) (Gh.by [] rfl (.cons rfl (.i _) (.nil)) (.nil)) ?_
  refine AWp.ret ?_
  exact FnQ.retP (Gh.refl _) (RetV.r1 rfl (.tmp rfl)) (congrArg (fun (out : Int) => (.i (.int .i64 out) : V)) (Option.some.inj h))

/- internal/strconv.isPowerOfTwo -/
def f271 (fu : Nat) (x : Int) : Option (Bool) :=
  lt (IntKind.wrap .i64 (x - 1)) fun v1_t5 =>
  lt (IntKind.wrap .i64 (BitVec.ofInt (IntKind.bits .i64) x &&& BitVec.ofInt (IntKind.bits .i64) v1_t5).toNat) fun v2_t6 =>
  some (decide (v2_t6 = 0))
set_option maxRecDepth 100000 in
set_option maxHeartbeats 4000000 in
theorem f271_c {fu : Nat} {x : Int} {out : Bool} (h : f271 fu x = some out) : Pure Tryz.prog GG 271 [.i (.int .i64 x)] (.i (.bool out)) := by
  refine Pure.of (NoIds.cons (NoId.i _) NoIds.nil) (NoId.i _) (ACall.of_body Tryz.func271 rfl (by kernel_rfl) ?_)
  unfold f271 at h
  refine AWp.seq ?_
  refine AWp.region ?_
  refine AOps.go (op_assign rfl) rfl rfl rfl ?_
  refine AOps.nil ?_
  refine AWp.seq ?_
  refine AWp.region ?_
  refine AOps.go (op_move rfl) rfl rfl rfl ?_
  refine AOps.go (op_move rfl) rfl rfl rfl ?_
  obtain ⟨v1_t5, h_v1_t5, h⟩ := lt_some h
  refine AOps.go (op_arith rfl rfl (congrArg some h_v1_t5)) rfl rfl rfl ?_
  obtain ⟨v2_t6, h_v2_t6, h⟩ := lt_some h
  refine AOps.go (op_arith rfl rfl (congrArg some h_v2_t6)) rfl rfl rfl ?_
  refine AOps.go (op_cmp rfl rfl rfl) rfl rfl rfl ?_
  refine AOps.go (op_assign rfl) rfl rfl rfl ?_
  refine AOps.fin (st' := ⟨[(2, .i (.bool (decide (v2_t6 = 0))))], ⟨[], 0, Ext.emp⟩⟩) (Gh.by [] rfl (.cons rfl (.i _) (.nil)) (.nil)) ?_
  refine AWp.ret ?_
  exact FnQ.retP (Gh.refl _) (RetV.r1 rfl (.tmp rfl)) (congrArg (fun (out : Bool) => (.i (.bool out) : V)) (Option.some.inj h))

/- math/bits.TrailingZeros64 -/
def f302 (fu : Nat) (x : Int) : Option (Int) :=
  bif (decide (x = 0)) then
    some 64
  else
    lt (IntKind.wrap .u64 (0 - x)) fun v3_t7 =>
    lt (IntKind.wrap .u64 (BitVec.ofInt (IntKind.bits .u64) x &&& BitVec.ofInt (IntKind.bits .u64) v3_t7).toNat) fun v4_t8 =>
    lt (IntKind.wrap .u64 (v4_t8 * 285870213051353865)) fun v5_t9 =>
    lt (Int.fdiv v5_t9 (2 ^ (min ((58) : Int).toNat (IntKind.bits .u64)))) fun v6_t10 =>
    none
set_option maxRecDepth 100000 in
set_option maxHeartbeats 4000000 in
theorem f302_c {fu : Nat} {x : Int} {out : Int} (h : f302 fu x = some out) : Pure Tryz.prog GG 302 [.i (.int .u64 x)] (.i (.int .i64 out)) := by
  refine Pure.of (NoIds.cons (NoId.i _) NoIds.nil) (NoId.i _) (ACall.of_body Tryz.func302 rfl (by kernel_rfl) ?_)
  unfold f302 at h
  refine AWp.seq ?_
  refine AWp.region ?_
  refine AOps.go (op_assign rfl) rfl rfl rfl ?_
  refine AOps.nil ?_
  refine AWp.seq ?_
  refine AWp.seq ?_
  refine AWp.region ?_
  refine AOps.go (op_move rfl) rfl rfl rfl ?_
  refine AOps.go (op_cmp rfl rfl rfl) rfl rfl rfl ?_
  refine AOps.nil ?_
  refine AWp.cond rfl (fun hc2 => ?_) (fun hc2 => ?_)
  · replace h := bif_t hc2 h
    refine AWp.seq ?_
    refine AWp.region ?_
    refine AOps.go (op_assign rfl) rfl rfl rfl ?_
    refine AOps.nil ?_
    refine AWp.ret ?_
    exact FnQ.retP (Gh.refl _) (RetV.r1 rfl (.tmp rfl)) (congrArg (fun (out : Int) => (.i (.int .i64 out) : V)) (Option.some.inj h))
  · replace h := bif_f hc2 h
    refine AWp.skip ?_
    refine AWp.seq ?_
    refine AWp.region ?_
    refine AOps.go (op_move rfl) rfl rfl rfl ?_
    refine AOps.go (op_move rfl) rfl rfl rfl ?_
    obtain ⟨v3_t7, h_v3_t7, h⟩ := lt_some h
    refine AOps.go (op_neg rfl h_v3_t7) rfl rfl rfl ?_
    obtain ⟨v4_t8, h_v4_t8, h⟩ := lt_some h
    refine AOps.go (op_arith rfl rfl (congrArg some h_v4_t8)) rfl rfl rfl ?_
    obtain ⟨v5_t9, h_v5_t9, h⟩ := lt_some h
    refine AOps.go (op_arith rfl rfl (congrArg some h_v5_t9)) rfl rfl rfl ?_
    obtain ⟨v6_t10, h_v6_t10, h⟩ := lt_some h
    refine AOps.go (op_shr rfl rfl (by decide) h_v6_t10) rfl rfl rfl ?_
    cases h

/- math/bits.TrailingZeros -/
def f272 (fu : Nat) (x : Int) : Option (Int) :=
  (f302 fu x).bind fun v1_r =>
  some v1_r
set_option maxRecDepth 100000 in
set_option maxHeartbeats 4000000 in
theorem f272_c {fu : Nat} {x : Int} {out : Int} (h : f272 fu x = some out) : Pure Tryz.prog GG 272 [.i (.int .u64 x)] (.i (.int .i64 out)) := by
  refine Pure.of (NoIds.cons (NoId.i _) NoIds.nil) (NoId.i _) (ACall.of_body Tryz.func272 rfl (by kernel_rfl) ?_)
  unfold f272 at h
  refine AWp.seq ?_
  refine AWp.region ?_
  refine AOps.go (op_assign rfl) rfl rfl rfl ?_
  refine AOps.nil ?_
  refine AWp.seq ?_
  refine AWp.condF rfl rfl ?_
  refine AWp.skip ?_
  refine AWp.seq ?_
  refine AWp.region ?_
  refine AOps.go (op_move rfl) rfl rfl rfl ?_
  obtain ⟨v1_r, h_v1_r, h⟩ := bind_some h
  refine AOps.go (op_call Tryz.func302 rfl rfl rfl (f302_c h_v1_r _)) rfl rfl rfl ?_
  refine AOps.go (op_assign rfl) rfl rfl rfl ?_
  refine AOps.fin (st' := ⟨[(2, .i (.int .i64 v1_r))], ⟨[], 0, Ext.emp⟩⟩) (Gh.by [] rfl (.cons rfl (.i _) (.nil)) (.nil)) ?_
  refine AWp.ret ?_
  exact FnQ.retP (Gh.refl _) (RetV.r1 rfl (.tmp rfl)) (congrArg (fun (out : Int) => (.i (.int .i64 out) : V)) (Option.some.inj h))

/- internal/strconv.FormatUint -/
def f184 (fu : Nat) (i : Int) (base : Int) : Option (Str) :=
  bif (decide (base = 10)) then
    bif (decide (i < 100)) then
      lt (IntKind.wrap .i64 i) fun v5_t14 =>
      (f223 fu v5_t14).bind fun v6_r =>
      some v6_r
    else
      none
  else
    none
set_option maxRecDepth 100000 in
set_option maxHeartbeats 4000000 in
theorem f184_c {fu : Nat} {i : Int} {base : Int} {out : Str} (h : f184 fu i base = some out) : Pure Tryz.prog GG 184 [.i (.int .u64 i), .i (.int .i64 base)] (.i (.str out)) := by
  refine Pure.of (NoIds.cons (NoId.i _) (NoIds.cons (NoId.i _) NoIds.nil)) (NoId.i _) (ACall.of_body Tryz.func184 rfl (by kernel_rfl) ?_)
  unfold f184 at h
  refine AWp.seq ?_
  refine AWp.region ?_
  refine AOps.go (op_assign rfl) rfl rfl rfl ?_
  refine AOps.nil ?_
  refine AWp.seq ?_
  refine AWp.seq ?_
  refine AWp.region ?_
  refine AOps.go (op_move rfl) rfl rfl rfl ?_
  refine AOps.go (op_cmp rfl rfl rfl) rfl rfl rfl ?_
  refine AOps.nil ?_
  refine AWp.cond rfl (fun hc3 => ?_) (fun hc3 => ?_)
  · replace h := bif_t hc3 h
    refine AWp.seq ?_
    refine AWp.seq ?_
    refine AWp.region ?_
    refine AOps.go (op_move rfl) rfl rfl rfl ?_
    refine AOps.go (op_cmp rfl rfl rfl) rfl rfl rfl ?_
    refine AOps.nil ?_
    refine AWp.cond rfl (fun hc4 => ?_) (fun hc4 => ?_)
    · replace h := bif_t hc4 h
      refine AWp.seq ?_
      refine AWp.region ?_
      refine AOps.go (op_move rfl) rfl rfl rfl ?_
      obtain ⟨v5_t14, h_v5_t14, h⟩ := lt_some h
      refine AOps.go (op_conv_int U40 U3 rfl h_v5_t14) rfl rfl rfl ?_
      obtain ⟨v6_r, h_v6_r, h⟩ := bind_some h
      refine AOps.go (op_call Tryz.func223 rfl rfl rfl (f223_c h_v6_r _)) rfl rfl rfl ?_
      refine AOps.go (op_assign rfl) rfl rfl rfl ?_
      refine AOps.fin (st' := ⟨[(4, .i (.str v6_r))], ⟨[], 0, Ext.emp⟩⟩) (Gh.by [] rfl (.cons rfl (.i _) (.nil)) (.nil)) ?_
      refine AWp.ret ?_
      exact FnQ.retP (Gh.refl _) (RetV.r1 rfl (.tmp rfl)) (congrArg (fun (out : Str) => (.i (.str out) : V)) (Option.some.inj h))
    · replace h := bif_f hc4 h
      refine AWp.skip ?_
      refine AWp.seq ?_
      refine AWp.region ?_
      refine AOps.go (op_alloc Z290) rfl rfl rfl ?_
      refine AOps.nil ?_
      refine AWp.seq ?_
      refine AWp.region ?_
      refine AOps.go (op_move rfl) rfl rfl rfl ?_
      cases h
  · replace h := bif_f hc3 h
    refine AWp.skip ?_
    refine AWp.seq ?_
    refine AWp.region ?_
    refine AOps.go (op_move rfl) rfl rfl rfl ?_
    refine AOps.go (op_move rfl) rfl rfl rfl ?_
    cases h

/- strconv.FormatUint -/
def f127 (fu : Nat) (i : Int) (base : Int) : Option (Str) :=
  (f184 fu i base).bind fun v1_r =>
  some v1_r
set_option maxRecDepth 100000 in
set_option maxHeartbeats 4000000 in
theorem f127_c {fu : Nat} {i : Int} {base : Int} {out : Str} (h : f127 fu i base = some out) : Pure Tryz.prog GG 127 [.i (.int .u64 i), .i (.int .i64 base)] (.i (.str out)) := by
  refine Pure.of (NoIds.cons (NoId.i _) (NoIds.cons (NoId.i _) NoIds.nil)) (NoId.i _) (ACall.of_body Tryz.func127 rfl (by kernel_rfl) ?_)
  unfold f127 at h
  refine AWp.seq ?_
  refine AWp.region ?_
  refine AOps.go (op_assign rfl) rfl rfl rfl ?_
  refine AOps.nil ?_
  refine AWp.seq ?_
  refine AWp.region ?_
  refine AOps.go (op_move rfl) rfl rfl rfl ?_
  refine AOps.go (op_move rfl) rfl rfl rfl ?_
  obtain ⟨v1_r, h_v1_r, h⟩ := bind_some h
  refine AOps.go (op_call Tryz.func184 rfl rfl rfl (f184_c h_v1_r _)) rfl rfl rfl ?_
  refine AOps.go (op_assign rfl) rfl rfl rfl ?_
  refine AOps.fin (st' := ⟨[(4, .i (.str v1_r))], ⟨[], 0, Ext.emp⟩⟩) (Gh.by [] rfl (.cons rfl (.i _) (.nil)) (.nil)) ?_
  refine AWp.ret ?_
  exact FnQ.retP (Gh.refl _) (RetV.r1 rfl (.tmp rfl)) (congrArg (fun (out : Str) => (.i (.str out) : V)) (Option.some.inj h))

/- hearth/value.Text -/
def f71 (fu : Nat) (n : Int) : Option (Str) :=
  (f127 fu n 10).bind fun v1_r =>
  some v1_r
set_option maxRecDepth 100000 in
set_option maxHeartbeats 4000000 in
theorem f71_c {fu : Nat} {n : Int} {out : Str} (h : f71 fu n = some out) : Pure Tryz.prog GG 71 [.i (.int .u64 n)] (.i (.str out)) := by
  refine Pure.of (NoIds.cons (NoId.i _) NoIds.nil) (NoId.i _) (ACall.of_body Tryz.func71 rfl (by kernel_rfl) ?_)
  unfold f71 at h
  refine AWp.seq ?_
  refine AWp.region ?_
  refine AOps.go (op_assign rfl) rfl rfl rfl ?_
  refine AOps.nil ?_
  refine AWp.seq ?_
  refine AWp.region ?_
  refine AOps.go (op_move rfl) rfl rfl rfl ?_
  obtain ⟨v1_r, h_v1_r, h⟩ := bind_some h
  refine AOps.go (op_call Tryz.func127 rfl rfl rfl (f127_c h_v1_r _)) rfl rfl rfl ?_
  refine AOps.go (op_assign rfl) rfl rfl rfl ?_
  refine AOps.fin (st' := ⟨[(2, .i (.str v1_r))], ⟨[], 0, Ext.emp⟩⟩) (Gh.by [] rfl (.cons rfl (.i _) (.nil)) (.nil)) ?_
  refine AWp.ret ?_
  exact FnQ.retP (Gh.refl _) (RetV.r1 rfl (.tmp rfl)) (congrArg (fun (out : Str) => (.i (.str out) : V)) (Option.some.inj h))

/- hearth/igd.addrText -/
def f70 (fu : Nat) (v1_a : Int) : Option (Str) :=
  bif (decide (v1_a = 0)) then
    some []
  else
    none
set_option maxRecDepth 100000 in
set_option maxHeartbeats 4000000 in
theorem f70_c {fu : Nat} {v1_a : Int} {out : Str} (h : f70 fu v1_a = some out) : Pure Tryz.prog GG 70 [.i (.int .u32 v1_a)] (.i (.str out)) := by
  refine Pure.of (NoIds.cons (NoId.i _) NoIds.nil) (NoId.i _) (ACall.of_body Tryz.func70 rfl (by kernel_rfl) ?_)
  unfold f70 at h
  refine AWp.seq ?_
  refine AWp.region ?_
  refine AOps.go (op_assign rfl) rfl rfl rfl ?_
  refine AOps.nil ?_
  refine AWp.seq ?_
  refine AWp.seq ?_
  refine AWp.region ?_
  refine AOps.go (op_move rfl) rfl rfl rfl ?_
  refine AOps.go (op_cmp rfl rfl rfl) rfl rfl rfl ?_
  refine AOps.nil ?_
  refine AWp.cond rfl (fun hc3 => ?_) (fun hc3 => ?_)
  · replace h := bif_t hc3 h
    refine AWp.seq ?_
    refine AWp.region ?_
    refine AOps.go (op_assign rfl) rfl rfl rfl ?_
    refine AOps.nil ?_
    refine AWp.ret ?_
    exact FnQ.retP (Gh.refl _) (RetV.r1 rfl (.tmp rfl)) (congrArg (fun (out : Str) => (.i (.str out) : V)) (Option.some.inj h))
  · replace h := bif_f hc3 h
    refine AWp.skip ?_
    refine AWp.seq ?_
    refine AWp.region ?_
    refine AOps.go (op_move rfl) rfl rfl rfl ?_
    cases h

/- (hearth/igd.inputs).num -/
def f138 (fu : Nat) (in_call : T_api_Call) (in_scene_Conf : T_api_Config) (in_scene_Who : Int) (in_scene_Now : Int) (name : Str) (b0_conf : T_api_Config) (b0_update : Int) (b1_most : Int) : Option (Int) :=
  (f85 fu in_call in_scene_Conf in_scene_Who in_scene_Now name b0_conf b0_update b1_most).bind fun v2_r =>
  (f132 fu v2_r 4294967295).bind fun v3_r =>
  some v3_r.1
set_option maxRecDepth 100000 in
set_option maxHeartbeats 4000000 in
theorem f138_c {fu : Nat} {in_call : T_api_Call} {in_scene_Conf : T_api_Config} {in_scene_Who : Int} {in_scene_Now : Int} {name : Str} {b0_conf : T_api_Config} {b0_update : Int} {b1_most : Int} {out : Int} (h : f138 fu in_call in_scene_Conf in_scene_Who in_scene_Now name b0_conf b0_update b1_most = some out) : ACall Tryz.prog GG 138 [.agg [.i (.str in_call.Service), .i (.str in_call.Action), (en_api_Arg.vec in_call.Args), .p 0 0, .i (.int .u8 in_scene_Conf.LanMAC.x_e0), .i (.int .u8 in_scene_Conf.LanMAC.x_e1), .i (.int .u8 in_scene_Conf.LanMAC.x_e2), .i (.int .u8 in_scene_Conf.LanMAC.x_e3), .i (.int .u8 in_scene_Conf.LanMAC.x_e4), .i (.int .u8 in_scene_Conf.LanMAC.x_e5), .i (.int .u8 in_scene_Conf.WanMAC.x_e0), .i (.int .u8 in_scene_Conf.WanMAC.x_e1), .i (.int .u8 in_scene_Conf.WanMAC.x_e2), .i (.int .u8 in_scene_Conf.WanMAC.x_e3), .i (.int .u8 in_scene_Conf.WanMAC.x_e4), .i (.int .u8 in_scene_Conf.WanMAC.x_e5), .i (.int .u8 in_scene_Conf.HopMAC.x_e0), .i (.int .u8 in_scene_Conf.HopMAC.x_e1), .i (.int .u8 in_scene_Conf.HopMAC.x_e2), .i (.int .u8 in_scene_Conf.HopMAC.x_e3), .i (.int .u8 in_scene_Conf.HopMAC.x_e4), .i (.int .u8 in_scene_Conf.HopMAC.x_e5), .i (.int .u32 in_scene_Conf.LanAddr), .i (.int .u32 in_scene_Conf.WanAddr), .i (.int .i64 in_scene_Conf.LanBits), .i (.int .i64 in_scene_Conf.MaxSessions), .i (.int .i64 in_scene_Conf.MaxMaps), .i (.int .i64 in_scene_Conf.MaxConns), .i (.int .i64 in_scene_Conf.MaxSubs), (en_api_Forward.vec in_scene_Conf.Forwards), .i (.int .u32 in_scene_Conf.DMZ), .i (.str in_scene_Conf.UUID), .i (.int .u32 in_scene_Who), .i (.int .u64 in_scene_Now)], .i (.str name)] ⟨[(0, [.i (.int .u8 b0_conf.LanMAC.x_e0), .i (.int .u8 b0_conf.LanMAC.x_e1), .i (.int .u8 b0_conf.LanMAC.x_e2), .i (.int .u8 b0_conf.LanMAC.x_e3), .i (.int .u8 b0_conf.LanMAC.x_e4), .i (.int .u8 b0_conf.LanMAC.x_e5), .i (.int .u8 b0_conf.WanMAC.x_e0), .i (.int .u8 b0_conf.WanMAC.x_e1), .i (.int .u8 b0_conf.WanMAC.x_e2), .i (.int .u8 b0_conf.WanMAC.x_e3), .i (.int .u8 b0_conf.WanMAC.x_e4), .i (.int .u8 b0_conf.WanMAC.x_e5), .i (.int .u8 b0_conf.HopMAC.x_e0), .i (.int .u8 b0_conf.HopMAC.x_e1), .i (.int .u8 b0_conf.HopMAC.x_e2), .i (.int .u8 b0_conf.HopMAC.x_e3), .i (.int .u8 b0_conf.HopMAC.x_e4), .i (.int .u8 b0_conf.HopMAC.x_e5), .i (.int .u32 b0_conf.LanAddr), .i (.int .u32 b0_conf.WanAddr), .i (.int .i64 b0_conf.LanBits), .i (.int .i64 b0_conf.MaxSessions), .i (.int .i64 b0_conf.MaxMaps), .i (.int .i64 b0_conf.MaxConns), .i (.int .i64 b0_conf.MaxSubs), (en_api_Forward.vec b0_conf.Forwards), .i (.int .u32 b0_conf.DMZ), .i (.str b0_conf.UUID), .p 1 0, .i (.int .u32 b0_update)]), (1, [.i (.val (.slice none 0 0)), .i (.int .i64 b1_most), .i (.fn (.func 42) [] [])])], 2, Ext.emp⟩ (EqK (.i (.int .u64 out)) ⟨[(0, [.i (.int .u8 b0_conf.LanMAC.x_e0), .i (.int .u8 b0_conf.LanMAC.x_e1), .i (.int .u8 b0_conf.LanMAC.x_e2), .i (.int .u8 b0_conf.LanMAC.x_e3), .i (.int .u8 b0_conf.LanMAC.x_e4), .i (.int .u8 b0_conf.LanMAC.x_e5), .i (.int .u8 b0_conf.WanMAC.x_e0), .i (.int .u8 b0_conf.WanMAC.x_e1), .i (.int .u8 b0_conf.WanMAC.x_e2), .i (.int .u8 b0_conf.WanMAC.x_e3), .i (.int .u8 b0_conf.WanMAC.x_e4), .i (.int .u8 b0_conf.WanMAC.x_e5), .i (.int .u8 b0_conf.HopMAC.x_e0), .i (.int .u8 b0_conf.HopMAC.x_e1), .i (.int .u8 b0_conf.HopMAC.x_e2), .i (.int .u8 b0_conf.HopMAC.x_e3), .i (.int .u8 b0_conf.HopMAC.x_e4), .i (.int .u8 b0_conf.HopMAC.x_e5), .i (.int .u32 b0_conf.LanAddr), .i (.int .u32 b0_conf.WanAddr), .i (.int .i64 b0_conf.LanBits), .i (.int .i64 b0_conf.MaxSessions), .i (.int .i64 b0_conf.MaxMaps), .i (.int .i64 b0_conf.MaxConns), .i (.int .i64 b0_conf.MaxSubs), (en_api_Forward.vec b0_conf.Forwards), .i (.int .u32 b0_conf.DMZ), .i (.str b0_conf.UUID), .p 1 0, .i (.int .u32 b0_update)]), (1, [.i (.val (.slice none 0 0)), .i (.int .i64 b1_most), .i (.fn (.func 42) [] [])])], 2, Ext.emp⟩) := by
  refine ACall.of_body Tryz.func138 rfl (by kernel_rfl) ?_
  unfold f138 at h
  refine AWp.seq ?_
  refine AWp.region ?_
  refine AOps.go (op_box rfl rfl) rfl rfl rfl ?_
  refine AOps.go (op_assign rfl) rfl rfl rfl ?_
  refine AOps.nil ?_
  refine AWp.seq ?_
  refine AWp.region ?_
  refine AOps.go (op_load_agg_p A113 rfl rfl (Nat.le_of_ble_eq_true rfl) rfl) rfl rfl rfl ?_
  refine AOps.go (op_move rfl) rfl rfl rfl ?_
  obtain ⟨v2_r, h_v2_r, h⟩ := bind_some h
  refine AOps.go (op_call Tryz.func85 rfl rfl rfl (CallOK.is (w := .i (.str v2_r)) (s2 := ⟨[(0, [.i (.int .u8 b0_conf.LanMAC.x_e0), .i (.int .u8 b0_conf.LanMAC.x_e1), .i (.int .u8 b0_conf.LanMAC.x_e2), .i (.int .u8 b0_conf.LanMAC.x_e3), .i (.int .u8 b0_conf.LanMAC.x_e4), .i (.int .u8 b0_conf.LanMAC.x_e5), .i (.int .u8 b0_conf.WanMAC.x_e0), .i (.int .u8 b0_conf.WanMAC.x_e1), .i (.int .u8 b0_conf.WanMAC.x_e2), .i (.int .u8 b0_conf.WanMAC.x_e3), .i (.int .u8 b0_conf.WanMAC.x_e4), .i (.int .u8 b0_conf.WanMAC.x_e5), .i (.int .u8 b0_conf.HopMAC.x_e0), .i (.int .u8 b0_conf.HopMAC.x_e1), .i (.int .u8 b0_conf.HopMAC.x_e2), .i (.int .u8 b0_conf.HopMAC.x_e3), .i (.int .u8 b0_conf.HopMAC.x_e4), .i (.int .u8 b0_conf.HopMAC.x_e5), .i (.int .u32 b0_conf.LanAddr), .i (.int .u32 b0_conf.WanAddr), .i (.int .i64 b0_conf.LanBits), .i (.int .i64 b0_conf.MaxSessions), .i (.int .i64 b0_conf.MaxMaps), .i (.int .i64 b0_conf.MaxConns), .i (.int .i64 b0_conf.MaxSubs), (en_api_Forward.vec b0_conf.Forwards), .i (.int .u32 b0_conf.DMZ), .i (.str b0_conf.UUID), .p 1 0, .i (.int .u32 b0_update)]), (1, [.i (.val (.slice none 0 0)), .i (.int .i64 b1_most), .i (.fn (.func 42) [] [])]), (2, [.i (.str in_call.Service), .i (.str in_call.Action), (en_api_Arg.vec in_call.Args), .p 0 0, .i (.int .u8 in_scene_Conf.LanMAC.x_e0), .i (.int .u8 in_scene_Conf.LanMAC.x_e1), .i (.int .u8 in_scene_Conf.LanMAC.x_e2), .i (.int .u8 in_scene_Conf.LanMAC.x_e3), .i (.int .u8 in_scene_Conf.LanMAC.x_e4), .i (.int .u8 in_scene_Conf.LanMAC.x_e5), .i (.int .u8 in_scene_Conf.WanMAC.x_e0), .i (.int .u8 in_scene_Conf.WanMAC.x_e1), .i (.int .u8 in_scene_Conf.WanMAC.x_e2), .i (.int .u8 in_scene_Conf.WanMAC.x_e3), .i (.int .u8 in_scene_Conf.WanMAC.x_e4), .i (.int .u8 in_scene_Conf.WanMAC.x_e5), .i (.int .u8 in_scene_Conf.HopMAC.x_e0), .i (.int .u8 in_scene_Conf.HopMAC.x_e1), .i (.int .u8 in_scene_Conf.HopMAC.x_e2), .i (.int .u8 in_scene_Conf.HopMAC.x_e3), .i (.int .u8 in_scene_Conf.HopMAC.x_e4), .i (.int .u8 in_scene_Conf.HopMAC.x_e5), .i (.int .u32 in_scene_Conf.LanAddr), .i (.int .u32 in_scene_Conf.WanAddr), .i (.int .i64 in_scene_Conf.LanBits), .i (.int .i64 in_scene_Conf.MaxSessions), .i (.int .i64 in_scene_Conf.MaxMaps), .i (.int .i64 in_scene_Conf.MaxConns), .i (.int .i64 in_scene_Conf.MaxSubs), (en_api_Forward.vec in_scene_Conf.Forwards), .i (.int .u32 in_scene_Conf.DMZ), .i (.str in_scene_Conf.UUID), .i (.int .u32 in_scene_Who), .i (.int .u64 in_scene_Now)])], 3, Ext.emp⟩) (CallOK.by [0, 1] (f85_c h_v2_r) rfl (.cons (.aggL (.cons (.i _) (.cons (.i _) (.cons (.i _) (.cons (.pB rfl) (.cons (.i _) (.cons (.i _) (.cons (.i _) (.cons (.i _) (.cons (.i _) (.cons (.i _) (.cons (.i _) (.cons (.i _) (.cons (.i _) (.cons (.i _) (.cons (.i _) (.cons (.i _) (.cons (.i _) (.cons (.i _) (.cons (.i _) (.cons (.i _) (.cons (.i _) (.cons (.i _) (.cons (.i _) (.cons (.i _) (.cons (.i _) (.cons (.i _) (.cons (.i _) (.cons (.i _) (.cons (.i _) (.cons (.i _) (.cons (.i _) (.cons (.i _) (.cons (.i _) (.cons (.i _) (.nil _ _)))))))))))))))))))))))))))))))))))) (.cons (.i _) (.nil _ _))) (.cons rfl rfl (.cons (.i _) (.cons (.i _) (.cons (.i _) (.cons (.i _) (.cons (.i _) (.cons (.i _) (.cons (.i _) (.cons (.i _) (.cons (.i _) (.cons (.i _) (.cons (.i _) (.cons (.i _) (.cons (.i _) (.cons (.i _) (.cons (.i _) (.cons (.i _) (.cons (.i _) (.cons (.i _) (.cons (.i _) (.cons (.i _) (.cons (.i _) (.cons (.i _) (.cons (.i _) (.cons (.i _) (.cons (.i _) (.cons (.i _) (.cons (.i _) (.cons (.i _) (.cons (.pB rfl) (.cons (.i _) (.nil _ _))))))))))))))))))))))))))))))) (.cons rfl rfl (.ofI rfl) (.nil))) (.i _) (.cons (Nat.le_of_ble_eq_true rfl) (.cons (.i _) (.cons (.i _) (.cons (.i _) (.cons (.i _) (.cons (.i _) (.cons (.i _) (.cons (.i _) (.cons (.i _) (.cons (.i _) (.cons (.i _) (.cons (.i _) (.cons (.i _) (.cons (.i _) (.cons (.i _) (.cons (.i _) (.cons (.i _) (.cons (.i _) (.cons (.i _) (.cons (.i _) (.cons (.i _) (.cons (.i _) (.cons (.i _) (.cons (.i _) (.cons (.i _) (.cons (.i _) (.cons (.i _) (.cons (.i _) (.cons (.i _) (.cons (.p _ _ (Nat.le_of_ble_eq_true rfl)) (.cons (.i _) (.nil _ _))))))))))))))))))))))))))))))) (.cons (Nat.le_of_ble_eq_true rfl) (.ofI rfl) (.nil)))) rfl rfl)) rfl rfl rfl ?_
  obtain ⟨v3_r, h_v3_r, h⟩ := bind_some h
  refine AOps.go (op_call Tryz.func132 rfl rfl rfl (f132_c h_v3_r _)) rfl rfl rfl ?_
  refine AOps.go (op_move rfl) rfl rfl rfl ?_
  refine AOps.go (op_extract rfl rfl) rfl rfl rfl ?_
  refine AOps.go (op_extract rfl rfl) rfl rfl rfl ?_
  refine AOps.go (op_assign rfl) rfl rfl rfl ?_
  refine AOps.go (op_assign rfl) rfl rfl rfl ?_
  refine AOps.fin (st' := ⟨[(5, .i (.int .u64 v3_r.1))], ⟨[(0, [.i (.int .u8 b0_conf.LanMAC.x_e0), .i (.int .u8 b0_conf.LanMAC.x_e1), .i (.int .u8 b0_conf.LanMAC.x_e2), .i (.int .u8 b0_conf.LanMAC.x_e3), .i (.int .u8 b0_conf.LanMAC.x_e4), .i (.int .u8 b0_conf.LanMAC.x_e5), .i (.int .u8 b0_conf.WanMAC.x_e0), .i (.int .u8 b0_conf.WanMAC.x_e1), .i (.int .u8 b0_conf.WanMAC.x_e2), .i (.int .u8 b0_conf.WanMAC.x_e3), .i (.int .u8 b0_conf.WanMAC.x_e4), .i (.int .u8 b0_conf.WanMAC.x_e5), .i (.int .u8 b0_conf.HopMAC.x_e0), .i (.int .u8 b0_conf.HopMAC.x_e1), .i (.int .u8 b0_conf.HopMAC.x_e2), .i (.int .u8 b0_conf.HopMAC.x_e3), .i (.int .u8 b0_conf.HopMAC.x_e4), .i (.int .u8 b0_conf.HopMAC.x_e5), .i (.int .u32 b0_conf.LanAddr), .i (.int .u32 b0_conf.WanAddr), .i (.int .i64 b0_conf.LanBits), .i (.int .i64 b0_conf.MaxSessions), .i (.int .i64 b0_conf.MaxMaps), .i (.int .i64 b0_conf.MaxConns), .i (.int .i64 b0_conf.MaxSubs), (en_api_Forward.vec b0_conf.Forwards), .i (.int .u32 b0_conf.DMZ), .i (.str b0_conf.UUID), .p 1 0, .i (.int .u32 b0_update)]), (1, [.i (.val (.slice none 0 0)), .i (.int .i64 b1_most), .i (.fn (.func 42) [] [])])], 3, Ext.emp⟩⟩) (Gh.by [] rfl (.cons rfl (.i _) (.nil)) (.cons rfl rfl (.cons (.i _) (.cons (.i _) (.cons (.i _) (.cons (.i _) (.cons (.i _) (.cons (.i _) (.cons (.i _) (.cons (.i _) (.cons (.i _) (.cons (.i _) (.cons (.i _) (.cons (.i _) (.cons (.i _) (.cons (.i _) (.cons (.i _) (.cons (.i _) (.cons (.i _) (.cons (.i _) (.cons (.i _) (.cons (.i _) (.cons (.i _) (.cons (.i _) (.cons (.i _) (.cons (.i _) (.cons (.i _) (.cons (.i _) (.cons (.i _) (.cons (.i _) (.cons (.pB rfl) (.cons (.i _) (.nil _ _))))))))))))))))))))))))))))))) (.cons rfl rfl (.ofI rfl) (.nil)))) ?_
  refine AWp.seq ?_
  refine AWp.region ?_
  refine AOps.go (op_move rfl) rfl rfl rfl ?_
  refine AOps.go (op_assign rfl) rfl rfl rfl ?_
  refine AOps.nil ?_
  refine AWp.ret ?_
  exact FnQ.retE [0, 1] (st' := ⟨[(4, .i (.int .u64 v3_r.1))], ⟨[(0, [.i (.int .u8 b0_conf.LanMAC.x_e0), .i (.int .u8 b0_conf.LanMAC.x_e1), .i (.int .u8 b0_conf.LanMAC.x_e2), .i (.int .u8 b0_conf.LanMAC.x_e3), .i (.int .u8 b0_conf.LanMAC.x_e4), .i (.int .u8 b0_conf.LanMAC.x_e5), .i (.int .u8 b0_conf.WanMAC.x_e0), .i (.int .u8 b0_conf.WanMAC.x_e1), .i (.int .u8 b0_conf.WanMAC.x_e2), .i (.int .u8 b0_conf.WanMAC.x_e3), .i (.int .u8 b0_conf.WanMAC.x_e4), .i (.int .u8 b0_conf.WanMAC.x_e5), .i (.int .u8 b0_conf.HopMAC.x_e0), .i (.int .u8 b0_conf.HopMAC.x_e1), .i (.int .u8 b0_conf.HopMAC.x_e2), .i (.int .u8 b0_conf.HopMAC.x_e3), .i (.int .u8 b0_conf.HopMAC.x_e4), .i (.int .u8 b0_conf.HopMAC.x_e5), .i (.int .u32 b0_conf.LanAddr), .i (.int .u32 b0_conf.WanAddr), .i (.int .i64 b0_conf.LanBits), .i (.int .i64 b0_conf.MaxSessions), .i (.int .i64 b0_conf.MaxMaps), .i (.int .i64 b0_conf.MaxConns), .i (.int .i64 b0_conf.MaxSubs), (en_api_Forward.vec b0_conf.Forwards), .i (.int .u32 b0_conf.DMZ), .i (.str b0_conf.UUID), .p 1 0, .i (.int .u32 b0_update)]), (1, [.i (.val (.slice none 0 0)), .i (.int .i64 b1_most), .i (.fn (.func 42) [] [])])], 2, Ext.emp⟩⟩) (Gh.by [0, 1] rfl (.cons rfl (.i _) (.nil)) (.cons rfl rfl (.cons (.i _) (.cons (.i _) (.cons (.i _) (.cons (.i _) (.cons (.i _) (.cons (.i _) (.cons (.i _) (.cons (.i _) (.cons (.i _) (.cons (.i _) (.cons (.i _) (.cons (.i _) (.cons (.i _) (.cons (.i _) (.cons (.i _) (.cons (.i _) (.cons (.i _) (.cons (.i _) (.cons (.i _) (.cons (.i _) (.cons (.i _) (.cons (.i _) (.cons (.i _) (.cons (.i _) (.cons (.i _) (.cons (.i _) (.cons (.i _) (.cons (.i _) (.cons (.pB rfl) (.cons (.i _) (.nil _ _))))))))))))))))))))))))))))))) (.cons rfl rfl (.ofI rfl) (.nil)))) (RetV.r1 rfl (.tmp rfl)) (congrArg (fun (out : Int) => (.i (.int .u64 out) : V)) (Option.some.inj h)) (congrArg (fun (out : Int) => (⟨[(0, [.i (.int .u8 b0_conf.LanMAC.x_e0), .i (.int .u8 b0_conf.LanMAC.x_e1), .i (.int .u8 b0_conf.LanMAC.x_e2), .i (.int .u8 b0_conf.LanMAC.x_e3), .i (.int .u8 b0_conf.LanMAC.x_e4), .i (.int .u8 b0_conf.LanMAC.x_e5), .i (.int .u8 b0_conf.WanMAC.x_e0), .i (.int .u8 b0_conf.WanMAC.x_e1), .i (.int .u8 b0_conf.WanMAC.x_e2), .i (.int .u8 b0_conf.WanMAC.x_e3), .i (.int .u8 b0_conf.WanMAC.x_e4), .i (.int .u8 b0_conf.WanMAC.x_e5), .i (.int .u8 b0_conf.HopMAC.x_e0), .i (.int .u8 b0_conf.HopMAC.x_e1), .i (.int .u8 b0_conf.HopMAC.x_e2), .i (.int .u8 b0_conf.HopMAC.x_e3), .i (.int .u8 b0_conf.HopMAC.x_e4), .i (.int .u8 b0_conf.HopMAC.x_e5), .i (.int .u32 b0_conf.LanAddr), .i (.int .u32 b0_conf.WanAddr), .i (.int .i64 b0_conf.LanBits), .i (.int .i64 b0_conf.MaxSessions), .i (.int .i64 b0_conf.MaxMaps), .i (.int .i64 b0_conf.MaxConns), .i (.int .i64 b0_conf.MaxSubs), (en_api_Forward.vec b0_conf.Forwards), .i (.int .u32 b0_conf.DMZ), .i (.str b0_conf.UUID), .p 1 0, .i (.int .u32 b0_update)]), (1, [.i (.val (.slice none 0 0)), .i (.int .i64 b1_most), .i (.fn (.func 42) [] [])])], 2, Ext.emp⟩ : Hs)) (Option.some.inj h))

/- (*hearth/keyed.Table[hearth/maps.key, hearth/api.Entry]).Len -/
def f46 (fu : Nat) (b0_most : Int) : Option (Int) :=
  some 0
set_option maxRecDepth 100000 in
set_option maxHeartbeats 4000000 in
theorem f46_c {fu : Nat} {b0_most : Int} {out : Int} (h : f46 fu b0_most = some out) : ACall Tryz.prog GG 46 [.p 0 0] ⟨[(0, [.i (.val (.slice none 0 0)), .i (.int .i64 b0_most), .i (.fn (.func 42) [] [])])], 1, Ext.emp⟩ (EqK (.i (.int .i64 out)) ⟨[(0, [.i (.val (.slice none 0 0)), .i (.int .i64 b0_most), .i (.fn (.func 42) [] [])])], 1, Ext.emp⟩) := by
  refine ACall.of_body Tryz.func46 rfl (by kernel_rfl) ?_
  unfold f46 at h
  refine AWp.seq ?_
  refine AWp.region ?_
  refine AOps.go (op_assign rfl) rfl rfl rfl ?_
  refine AOps.nil ?_
  refine AWp.seq ?_
  refine AWp.region ?_
  refine AOps.go (op_move rfl) rfl rfl rfl ?_
  refine AOps.go (op_nilCheck rfl (.p _ _)) rfl rfl rfl ?_
  refine AOps.go (op_fieldAddr_p F152_0 rfl) rfl rfl rfl ?_
  refine AOps.go (op_load_p L150 rfl rfl rfl) rfl rfl rfl ?_
  refine AOps.go (op_len_nil rfl U150 rfl) rfl rfl rfl ?_
  refine AOps.go (op_assign rfl) rfl rfl rfl ?_
  refine AOps.fin (st' := ⟨[(2, .i (.int .i64 0))], ⟨[(0, [.i (.val (.slice none 0 0)), .i (.int .i64 b0_most), .i (.fn (.func 42) [] [])])], 1, Ext.emp⟩⟩) (Gh.by [] rfl (.cons rfl (.i _) (.nil)) (.cons rfl rfl (.ofI rfl) (.nil))) ?_
  refine AWp.ret ?_
  exact FnQ.retE [0] (st' := ⟨[(2, .i (.int .i64 0))], ⟨[(0, [.i (.val (.slice none 0 0)), .i (.int .i64 b0_most), .i (.fn (.func 42) [] [])])], 1, Ext.emp⟩⟩) (Gh.by [0] rfl (.cons rfl (.i _) (.nil)) (.cons rfl rfl (.ofI rfl) (.nil))) (RetV.r1 rfl (.tmp rfl)) (congrArg (fun (out : Int) => (.i (.int .i64 out) : V)) (Option.some.inj h)) (congrArg (fun (out : Int) => (⟨[(0, [.i (.val (.slice none 0 0)), .i (.int .i64 b0_most), .i (.fn (.func 42) [] [])])], 1, Ext.emp⟩ : Hs)) (Option.some.inj h))

/- (*hearth/keyed.Table[hearth/maps.key, hearth/api.Entry]).At -/
def f187_j8 (fu : Nat) (v6_t17 : Bool) : Option (T_maps_key × T_api_Entry × Bool) :=
  bif v6_t17 then
    some ((⟨0, 0, 0⟩ : T_maps_key), (⟨(⟨0, 0, 0, 0, 0⟩ : T_api_Mapping), false, [], 0⟩ : T_api_Entry), false)
  else
    none
def f187 (fu : Nat) (i : Int) (b0_most : Int) : Option (T_maps_key × T_api_Entry × Bool) :=
  bif (decide (i < 0)) then
    f187_j8 fu true
  else
    f187_j8 fu (decide (0 ≤ i))
set_option maxRecDepth 100000 in
set_option maxHeartbeats 4000000 in
theorem f187_c {fu : Nat} {i : Int} {b0_most : Int} {out : T_maps_key × T_api_Entry × Bool} (h : f187 fu i b0_most = some out) : ACall Tryz.prog GG 187 [.p 0 0, .i (.int .i64 i)] ⟨[(0, [.i (.val (.slice none 0 0)), .i (.int .i64 b0_most), .i (.fn (.func 42) [] [])])], 1, Ext.emp⟩ (EqK (.tup [.agg [.i (.int .u8 out.1.x_proto), .i (.int .u16 out.1.x_ext), .i (.int .u32 out.1.x_remote)], .agg [.i (.int .u8 out.2.1.Mapping.Proto), .i (.int .u16 out.2.1.Mapping.Ext), .i (.int .u16 out.2.1.Mapping.To), .i (.int .u32 out.2.1.Mapping.Remote), .i (.int .u32 out.2.1.Mapping.Host), .i (.bool out.2.1.Enabled), .i (.str out.2.1.Words), .i (.int .u64 out.2.1.Ends)], .i (.bool out.2.2)]) ⟨[(0, [.i (.val (.slice none 0 0)), .i (.int .i64 b0_most), .i (.fn (.func 42) [] [])])], 3, Ext.emp⟩) := by
  refine ACall.of_body Tryz.func187 rfl (by kernel_rfl) ?_
  unfold f187 at h
  refine AWp.seq ?_
  refine AWp.region ?_
  refine AOps.go (op_alloc Z98) rfl rfl rfl ?_
  refine AOps.go (op_alloc Z102) rfl rfl rfl ?_
  refine AOps.go (op_assign rfl) rfl rfl rfl ?_
  refine AOps.fin (st' := ⟨[(0, .p 0 0), (1, .i (.int .i64 i)), (4, .p 1 0), (5, .p 2 0)], ⟨[(2, [.i (.int .u8 0), .i (.int .u16 0), .i (.int .u16 0), .i (.int .u32 0), .i (.int .u32 0), .i (.bool false), .i (.str []), .i (.int .u64 0)]), (1, [.i (.int .u8 0), .i (.int .u16 0), .i (.int .u32 0)]), (0, [.i (.val (.slice none 0 0)), .i (.int .i64 b0_most), .i (.fn (.func 42) [] [])])], 3, Ext.emp⟩⟩) (Gh.by [] rfl (.cons rfl (.pB rfl) (.cons rfl (.i _) (.cons rfl (.pB rfl) (.cons rfl (.pB rfl) (.nil))))) (.cons rfl rfl (.ofI rfl) (.cons rfl rfl (.ofI rfl) (.cons rfl rfl (.ofI rfl) (.nil))))) ?_
  refine AWp.seq ?_
  refine AWp.seqJ (fun (a : Bool) => (⟨[(0, .p 0 0), (1, .i (.int .i64 i)), (4, .p 1 0), (5, .p 2 0), (17, .i (.bool a))], ⟨[(0, [.i (.val (.slice none 0 0)), .i (.int .i64 b0_most), .i (.fn (.func 42) [] [])]), (1, [.i (.int .u8 0), .i (.int .u16 0), .i (.int .u32 0)]), (2, [.i (.int .u8 0), .i (.int .u16 0), .i (.int .u16 0), .i (.int .u32 0), .i (.int .u32 0), .i (.bool false), .i (.str []), .i (.int .u64 0)])], 3, Ext.emp⟩⟩ : St)) (fun a => f187_j8 fu a = some out) ?_ ?_
  · intro a h
    revert h; revert a; intro v6_t17 h
    change AWp _ _ _ _ _ _ _ _ (⟨[(0, .p 0 0), (1, .i (.int .i64 i)), (4, .p 1 0), (5, .p 2 0), (17, .i (.bool v6_t17))], ⟨[(0, [.i (.val (.slice none 0 0)), .i (.int .i64 b0_most), .i (.fn (.func 42) [] [])]), (1, [.i (.int .u8 0), .i (.int .u16 0), .i (.int .u32 0)]), (2, [.i (.int .u8 0), .i (.int .u16 0), .i (.int .u16 0), .i (.int .u32 0), .i (.int .u32 0), .i (.bool false), .i (.str []), .i (.int .u64 0)])], 3, Ext.emp⟩⟩ : St)
    replace h : f187_j8 fu v6_t17 = some out := h
    unfold f187_j8 at h
    refine AWp.cond rfl (fun hc7 => ?_) (fun hc7 => ?_)
    · replace h := bif_t hc7 h
      refine AWp.seq ?_
      refine AWp.drawnG (st' := ⟨[(4, .p 1 0), (5, .p 2 0), (6, .i (.bool false))], ⟨[(0, [.i (.val (.slice none 0 0)), .i (.int .i64 b0_most), .i (.fn (.func 42) [] [])]), (1, [.i (.int .u8 0), .i (.int .u16 0), .i (.int .u32 0)]), (2, [.i (.int .u8 0), .i (.int .u16 0), .i (.int .u16 0), .i (.int .u32 0), .i (.int .u32 0), .i (.bool false), .i (.str []), .i (.int .u64 0)])], 3, Ext.emp⟩⟩) (fun k => match k with | 0 => (⟨[(0, [.i (.val (.slice none 0 0)), .i (.int .i64 b0_most), .i (.fn (.func 42) [] [])]), (1, [.i (.int .u8 0), .i (.int .u16 0), .i (.int .u32 0)]), (2, [.i (.int .u8 0), .i (.int .u16 0), .i (.int .u16 0), .i (.int .u32 0), .i (.int .u32 0), .i (.bool false), .i (.str []), .i (.int .u64 0)])], 3, Ext.emp⟩ : Hs) | 1 => (⟨[(0, [.i (.val (.slice none 0 0)), .i (.int .i64 b0_most), .i (.fn (.func 42) [] [])]), (1, [.i (.int .u8 0), .i (.int .u16 0), .i (.int .u32 0)]), (2, [.i (.int .u8 0), .i (.int .u16 0), .i (.int .u16 0), .i (.int .u32 0), .i (.int .u32 0), .i (.bool false), .i (.str []), .i (.int .u64 0)])], 3, Ext.emp⟩ : Hs) | _ => (⟨[(0, [.i (.val (.slice none 0 0)), .i (.int .i64 b0_most), .i (.fn (.func 42) [] [])]), (1, [.i (.int .u8 0), .i (.int .u16 0), .i (.int .u32 0)]), (2, [.i (.int .u8 0), .i (.int .u16 0), .i (.int .u16 0), .i (.int .u32 0), .i (.int .u32 0), .i (.bool false), .i (.str []), .i (.int .u64 0)])], 3, Ext.emp⟩ : Hs)) 2 rfl rfl (.heapS 0 ⟨op_load_agg_p A98 rfl rfl (Nat.le_of_ble_eq_true rfl) rfl, op_load_agg_p A98 rfl rfl (Nat.le_of_ble_eq_true rfl) rfl, op_load_agg_p A98 rfl rfl (Nat.le_of_ble_eq_true rfl) rfl, trivial⟩ rfl rfl (.heapS 0 ⟨op_load_agg_p A102 rfl rfl (Nat.le_of_ble_eq_true rfl) rfl, op_load_agg_p A102 rfl rfl (Nat.le_of_ble_eq_true rfl) rfl, op_load_agg_p A102 rfl rfl (Nat.le_of_ble_eq_true rfl) rfl, trivial⟩ rfl rfl (.wr (LOp.is (op_store SZ98 rfl rfl rfl rfl rfl (Nat.le_of_ble_eq_true rfl)) rfl rfl) rfl rfl (.wr (LOp.is (op_store SZ102 rfl rfl rfl rfl rfl (Nat.le_of_ble_eq_true rfl)) rfl rfl) rfl rfl (.pure (fun s => op_assign rfl) rfl rfl (.nil _ _)))))) (by kernel_rfl) ?_ ?_
      · exact Gh.by [] rfl (.cons rfl (.pB rfl) (.cons rfl (.pB rfl) (.cons rfl (.i _) (.nil)))) (.cons rfl rfl (.ofI rfl) (.cons rfl rfl (.ofI rfl) (.cons rfl rfl (.ofI rfl) (.nil))))
      refine AWp.ret ?_
      exact FnQ.retE [0] (st' := ⟨[(4, .p 1 0), (5, .p 2 0), (6, .i (.bool false))], ⟨[(0, [.i (.val (.slice none 0 0)), .i (.int .i64 b0_most), .i (.fn (.func 42) [] [])]), (1, [.i (.int .u8 0), .i (.int .u16 0), .i (.int .u32 0)]), (2, [.i (.int .u8 0), .i (.int .u16 0), .i (.int .u16 0), .i (.int .u32 0), .i (.int .u32 0), .i (.bool false), .i (.str []), .i (.int .u64 0)])], 3, Ext.emp⟩⟩) (Gh.by [0, 1, 2] rfl (.cons rfl (.pB rfl) (.cons rfl (.pB rfl) (.cons rfl (.i _) (.nil)))) (.cons rfl rfl (.ofI rfl) (.cons rfl rfl (.ofI rfl) (.cons rfl rfl (.ofI rfl) (.nil))))) (RetV.r3 rfl (.agg A98 rfl rfl (Nat.le_of_ble_eq_true rfl) rfl) (.agg A102 rfl rfl (Nat.le_of_ble_eq_true rfl) rfl) (.tmp rfl)) (congrArg (fun (out : T_maps_key × T_api_Entry × Bool) => (.tup [.agg [.i (.int .u8 out.1.x_proto), .i (.int .u16 out.1.x_ext), .i (.int .u32 out.1.x_remote)], .agg [.i (.int .u8 out.2.1.Mapping.Proto), .i (.int .u16 out.2.1.Mapping.Ext), .i (.int .u16 out.2.1.Mapping.To), .i (.int .u32 out.2.1.Mapping.Remote), .i (.int .u32 out.2.1.Mapping.Host), .i (.bool out.2.1.Enabled), .i (.str out.2.1.Words), .i (.int .u64 out.2.1.Ends)], .i (.bool out.2.2)] : V)) (Option.some.inj h)) (congrArg (fun (out : T_maps_key × T_api_Entry × Bool) => (⟨[(0, [.i (.val (.slice none 0 0)), .i (.int .i64 b0_most), .i (.fn (.func 42) [] [])])], 3, Ext.emp⟩ : Hs)) (Option.some.inj h))
    · replace h := bif_f hc7 h
      refine AWp.skip ?_
      refine AWp.seq ?_
      cases h
  · refine AWp.region ?_
    refine AOps.go (op_move rfl) rfl rfl rfl ?_
    refine AOps.go (op_cmp rfl rfl rfl) rfl rfl rfl ?_
    refine AOps.go (op_move rfl) rfl rfl rfl ?_
    rcases Bool.eq_false_or_eq_true (decide (i < 0)) with hc9 | hc9
    · replace h := bif_t hc9 h
      refine AOps.goF rfl rfl rfl hc9 rfl rfl rfl ?_
      refine AOps.goF rfl rfl rfl hc9 rfl rfl rfl ?_
      refine AOps.goF rfl rfl rfl hc9 rfl rfl rfl ?_
      refine AOps.goF rfl rfl rfl hc9 rfl rfl rfl ?_
      refine AOps.goF rfl rfl rfl hc9 rfl rfl rfl ?_
      refine AOps.goF rfl rfl rfl hc9 rfl rfl rfl ?_
      refine AOps.goF rfl rfl rfl hc9 rfl rfl rfl ?_
      refine AOps.go (op_pick_true' rfl hc9 rfl) rfl rfl rfl ?_
      refine AOps.fin (st' := ⟨[(0, .p 0 0), (1, .i (.int .i64 i)), (4, .p 1 0), (5, .p 2 0), (17, .i (.bool true))], ⟨[(2, [.i (.int .u8 0), .i (.int .u16 0), .i (.int .u16 0), .i (.int .u32 0), .i (.int .u32 0), .i (.bool false), .i (.str []), .i (.int .u64 0)]), (1, [.i (.int .u8 0), .i (.int .u16 0), .i (.int .u32 0)]), (0, [.i (.val (.slice none 0 0)), .i (.int .i64 b0_most), .i (.fn (.func 42) [] [])])], 3, Ext.emp⟩⟩) (Gh.by [] rfl (.cons rfl (.pB rfl) (.cons rfl (.i _) (.cons rfl (.pB rfl) (.cons rfl (.pB rfl) (.cons rfl (.i _) (.nil)))))) (.cons rfl rfl (.ofI rfl) (.cons rfl rfl (.ofI rfl) (.cons rfl rfl (.ofI rfl) (.nil))))) ?_
      exact ⟨true, h, Gh.by [0, 1, 2] rfl (.cons rfl (.pB rfl) (.cons rfl (.i _) (.cons rfl (.pB rfl) (.cons rfl (.pB rfl) (.cons rfl (.i _) (.nil)))))) (.cons rfl rfl (.ofI rfl) (.cons rfl rfl (.ofI rfl) (.cons rfl rfl (.ofI rfl) (.nil))))⟩
    · replace h := bif_f hc9 h
      refine AOps.goT (op_move rfl) rfl rfl rfl hc9 rfl rfl rfl ?_
      refine AOps.goT (op_move rfl) rfl rfl rfl hc9 rfl rfl rfl ?_
      refine AOps.goT (op_nilCheck rfl (.p _ _)) rfl rfl rfl hc9 rfl rfl rfl ?_
      refine AOps.goT (op_fieldAddr_p F152_0 rfl) rfl rfl rfl hc9 rfl rfl rfl ?_
      refine AOps.goT (op_load_p L150 rfl rfl rfl) rfl rfl rfl hc9 rfl rfl rfl ?_
      refine AOps.goT (op_len_nil rfl U150 rfl) rfl rfl rfl hc9 rfl rfl rfl ?_
      refine AOps.goT (op_cmp rfl rfl rfl) rfl rfl rfl hc9 rfl rfl rfl ?_
      refine AOps.go (op_pick_false' rfl hc9 rfl) rfl rfl rfl ?_
      refine AOps.fin (st' := ⟨[(0, .p 0 0), (1, .i (.int .i64 i)), (4, .p 1 0), (5, .p 2 0), (17, .i (.bool (decide (0 ≤ i))))], ⟨[(2, [.i (.int .u8 0), .i (.int .u16 0), .i (.int .u16 0), .i (.int .u32 0), .i (.int .u32 0), .i (.bool false), .i (.str []), .i (.int .u64 0)]), (1, [.i (.int .u8 0), .i (.int .u16 0), .i (.int .u32 0)]), (0, [.i (.val (.slice none 0 0)), .i (.int .i64 b0_most), .i (.fn (.func 42) [] [])])], 3, Ext.emp⟩⟩) (Gh.by [] rfl (.cons rfl (.pB rfl) (.cons rfl (.i _) (.cons rfl (.pB rfl) (.cons rfl (.pB rfl) (.cons rfl (.i _) (.nil)))))) (.cons rfl rfl (.ofI rfl) (.cons rfl rfl (.ofI rfl) (.cons rfl rfl (.ofI rfl) (.nil))))) ?_
      exact ⟨(decide (0 ≤ i)), h, Gh.by [0, 1, 2] rfl (.cons rfl (.pB rfl) (.cons rfl (.i _) (.cons rfl (.pB rfl) (.cons rfl (.pB rfl) (.cons rfl (.i _) (.nil)))))) (.cons rfl rfl (.ofI rfl) (.cons rfl rfl (.ofI rfl) (.cons rfl rfl (.ofI rfl) (.nil))))⟩

/- (*hearth/maps.Set).At -/
def f137 (fu : Nat) (i : Int) (b0_conf : T_api_Config) (b0_update : Int) (b1_most : Int) : Option (T_api_Entry × Int) :=
  (f46 fu b1_most).bind fun v3_r =>
  lt (IntKind.wrap .u64 v3_r) fun v4_t15 =>
  bif (decide (v4_t15 ≤ i)) then
    some ((⟨(⟨0, 0, 0, 0, 0⟩ : T_api_Mapping), false, [], 0⟩ : T_api_Entry), 713)
  else
    lt (IntKind.wrap .i64 i) fun v6_t24 =>
    (f187 fu v6_t24 b1_most).bind fun v7_r =>
    some (v7_r.2.1, 0)
set_option maxRecDepth 100000 in
set_option maxHeartbeats 4000000 in
theorem f137_c {fu : Nat} {i : Int} {b0_conf : T_api_Config} {b0_update : Int} {b1_most : Int} {out : T_api_Entry × Int} (h : f137 fu i b0_conf b0_update b1_most = some out) : ACall Tryz.prog GG 137 [.p 0 0, .i (.int .u64 i)] ⟨[(0, [.i (.int .u8 b0_conf.LanMAC.x_e0), .i (.int .u8 b0_conf.LanMAC.x_e1), .i (.int .u8 b0_conf.LanMAC.x_e2), .i (.int .u8 b0_conf.LanMAC.x_e3), .i (.int .u8 b0_conf.LanMAC.x_e4), .i (.int .u8 b0_conf.LanMAC.x_e5), .i (.int .u8 b0_conf.WanMAC.x_e0), .i (.int .u8 b0_conf.WanMAC.x_e1), .i (.int .u8 b0_conf.WanMAC.x_e2), .i (.int .u8 b0_conf.WanMAC.x_e3), .i (.int .u8 b0_conf.WanMAC.x_e4), .i (.int .u8 b0_conf.WanMAC.x_e5), .i (.int .u8 b0_conf.HopMAC.x_e0), .i (.int .u8 b0_conf.HopMAC.x_e1), .i (.int .u8 b0_conf.HopMAC.x_e2), .i (.int .u8 b0_conf.HopMAC.x_e3), .i (.int .u8 b0_conf.HopMAC.x_e4), .i (.int .u8 b0_conf.HopMAC.x_e5), .i (.int .u32 b0_conf.LanAddr), .i (.int .u32 b0_conf.WanAddr), .i (.int .i64 b0_conf.LanBits), .i (.int .i64 b0_conf.MaxSessions), .i (.int .i64 b0_conf.MaxMaps), .i (.int .i64 b0_conf.MaxConns), .i (.int .i64 b0_conf.MaxSubs), (en_api_Forward.vec b0_conf.Forwards), .i (.int .u32 b0_conf.DMZ), .i (.str b0_conf.UUID), .p 1 0, .i (.int .u32 b0_update)]), (1, [.i (.val (.slice none 0 0)), .i (.int .i64 b1_most), .i (.fn (.func 42) [] [])])], 2, Ext.emp⟩ (EqK (.tup [.agg [.i (.int .u8 out.1.Mapping.Proto), .i (.int .u16 out.1.Mapping.Ext), .i (.int .u16 out.1.Mapping.To), .i (.int .u32 out.1.Mapping.Remote), .i (.int .u32 out.1.Mapping.Host), .i (.bool out.1.Enabled), .i (.str out.1.Words), .i (.int .u64 out.1.Ends)], .i (.int .i64 out.2)]) ⟨[(0, [.i (.int .u8 b0_conf.LanMAC.x_e0), .i (.int .u8 b0_conf.LanMAC.x_e1), .i (.int .u8 b0_conf.LanMAC.x_e2), .i (.int .u8 b0_conf.LanMAC.x_e3), .i (.int .u8 b0_conf.LanMAC.x_e4), .i (.int .u8 b0_conf.LanMAC.x_e5), .i (.int .u8 b0_conf.WanMAC.x_e0), .i (.int .u8 b0_conf.WanMAC.x_e1), .i (.int .u8 b0_conf.WanMAC.x_e2), .i (.int .u8 b0_conf.WanMAC.x_e3), .i (.int .u8 b0_conf.WanMAC.x_e4), .i (.int .u8 b0_conf.WanMAC.x_e5), .i (.int .u8 b0_conf.HopMAC.x_e0), .i (.int .u8 b0_conf.HopMAC.x_e1), .i (.int .u8 b0_conf.HopMAC.x_e2), .i (.int .u8 b0_conf.HopMAC.x_e3), .i (.int .u8 b0_conf.HopMAC.x_e4), .i (.int .u8 b0_conf.HopMAC.x_e5), .i (.int .u32 b0_conf.LanAddr), .i (.int .u32 b0_conf.WanAddr), .i (.int .i64 b0_conf.LanBits), .i (.int .i64 b0_conf.MaxSessions), .i (.int .i64 b0_conf.MaxMaps), .i (.int .i64 b0_conf.MaxConns), .i (.int .i64 b0_conf.MaxSubs), (en_api_Forward.vec b0_conf.Forwards), .i (.int .u32 b0_conf.DMZ), .i (.str b0_conf.UUID), .p 1 0, .i (.int .u32 b0_update)]), (1, [.i (.val (.slice none 0 0)), .i (.int .i64 b1_most), .i (.fn (.func 42) [] [])])], 3, Ext.emp⟩) := by
  refine ACall.of_body Tryz.func137 rfl (by kernel_rfl) ?_
  unfold f137 at h
  refine AWp.seq ?_
  refine AWp.region ?_
  refine AOps.go (op_alloc Z102) rfl rfl rfl ?_
  refine AOps.go (op_assign rfl) rfl rfl rfl ?_
  refine AOps.nil ?_
  refine AWp.seq ?_
  refine AWp.seq ?_
  refine AWp.region ?_
  refine AOps.go (op_move rfl) rfl rfl rfl ?_
  refine AOps.go (op_move rfl) rfl rfl rfl ?_
  refine AOps.go (op_nilCheck rfl (.p _ _)) rfl rfl rfl ?_
  refine AOps.go (op_fieldAddr_p F105_1 rfl) rfl rfl rfl ?_
  refine AOps.go (op_load_p L94 rfl rfl rfl) rfl rfl rfl ?_
  obtain ⟨v3_r, h_v3_r, h⟩ := bind_some h
  refine AOps.go (op_call Tryz.func46 rfl rfl rfl (CallOK.is (w := .i (.int .i64 v3_r)) (s2 := ⟨[(1, [.i (.val (.slice none 0 0)), .i (.int .i64 b1_most), .i (.fn (.func 42) [] [])]), (2, [.i (.int .u8 0), .i (.int .u16 0), .i (.int .u16 0), .i (.int .u32 0), .i (.int .u32 0), .i (.bool false), .i (.str []), .i (.int .u64 0)]), (0, [.i (.int .u8 b0_conf.LanMAC.x_e0), .i (.int .u8 b0_conf.LanMAC.x_e1), .i (.int .u8 b0_conf.LanMAC.x_e2), .i (.int .u8 b0_conf.LanMAC.x_e3), .i (.int .u8 b0_conf.LanMAC.x_e4), .i (.int .u8 b0_conf.LanMAC.x_e5), .i (.int .u8 b0_conf.WanMAC.x_e0), .i (.int .u8 b0_conf.WanMAC.x_e1), .i (.int .u8 b0_conf.WanMAC.x_e2), .i (.int .u8 b0_conf.WanMAC.x_e3), .i (.int .u8 b0_conf.WanMAC.x_e4), .i (.int .u8 b0_conf.WanMAC.x_e5), .i (.int .u8 b0_conf.HopMAC.x_e0), .i (.int .u8 b0_conf.HopMAC.x_e1), .i (.int .u8 b0_conf.HopMAC.x_e2), .i (.int .u8 b0_conf.HopMAC.x_e3), .i (.int .u8 b0_conf.HopMAC.x_e4), .i (.int .u8 b0_conf.HopMAC.x_e5), .i (.int .u32 b0_conf.LanAddr), .i (.int .u32 b0_conf.WanAddr), .i (.int .i64 b0_conf.LanBits), .i (.int .i64 b0_conf.MaxSessions), .i (.int .i64 b0_conf.MaxMaps), .i (.int .i64 b0_conf.MaxConns), .i (.int .i64 b0_conf.MaxSubs), (en_api_Forward.vec b0_conf.Forwards), .i (.int .u32 b0_conf.DMZ), .i (.str b0_conf.UUID), .p 1 0, .i (.int .u32 b0_update)])], 3, Ext.emp⟩) (CallOK.by [1] (f46_c h_v3_r) rfl (.cons (.pB rfl) (.nil _ _)) (.cons rfl rfl (.ofI rfl) (.nil)) (.i _) (.cons (Nat.le_of_ble_eq_true rfl) (.ofI rfl) (.nil))) rfl rfl)) rfl rfl rfl ?_
  obtain ⟨v4_t15, h_v4_t15, h⟩ := lt_some h
  refine AOps.go (op_conv_int U3 U40 rfl h_v4_t15) rfl rfl rfl ?_
  refine AOps.go (op_cmp rfl rfl rfl) rfl rfl rfl ?_
  refine AOps.fin (st' := ⟨[(0, .p 0 0), (1, .i (.int .u64 i)), (4, .p 2 0), (16, .i (.bool (decide (v4_t15 ≤ i))))], ⟨[(1, [.i (.val (.slice none 0 0)), .i (.int .i64 b1_most), .i (.fn (.func 42) [] [])]), (2, [.i (.int .u8 0), .i (.int .u16 0), .i (.int .u16 0), .i (.int .u32 0), .i (.int .u32 0), .i (.bool false), .i (.str []), .i (.int .u64 0)]), (0, [.i (.int .u8 b0_conf.LanMAC.x_e0), .i (.int .u8 b0_conf.LanMAC.x_e1), .i (.int .u8 b0_conf.LanMAC.x_e2), .i (.int .u8 b0_conf.LanMAC.x_e3), .i (.int .u8 b0_conf.LanMAC.x_e4), .i (.int .u8 b0_conf.LanMAC.x_e5), .i (.int .u8 b0_conf.WanMAC.x_e0), .i (.int .u8 b0_conf.WanMAC.x_e1), .i (.int .u8 b0_conf.WanMAC.x_e2), .i (.int .u8 b0_conf.WanMAC.x_e3), .i (.int .u8 b0_conf.WanMAC.x_e4), .i (.int .u8 b0_conf.WanMAC.x_e5), .i (.int .u8 b0_conf.HopMAC.x_e0), .i (.int .u8 b0_conf.HopMAC.x_e1), .i (.int .u8 b0_conf.HopMAC.x_e2), .i (.int .u8 b0_conf.HopMAC.x_e3), .i (.int .u8 b0_conf.HopMAC.x_e4), .i (.int .u8 b0_conf.HopMAC.x_e5), .i (.int .u32 b0_conf.LanAddr), .i (.int .u32 b0_conf.WanAddr), .i (.int .i64 b0_conf.LanBits), .i (.int .i64 b0_conf.MaxSessions), .i (.int .i64 b0_conf.MaxMaps), .i (.int .i64 b0_conf.MaxConns), .i (.int .i64 b0_conf.MaxSubs), (en_api_Forward.vec b0_conf.Forwards), .i (.int .u32 b0_conf.DMZ), .i (.str b0_conf.UUID), .p 1 0, .i (.int .u32 b0_update)])], 3, Ext.emp⟩⟩) (Gh.by [] rfl (.cons rfl (.pB rfl) (.cons rfl (.i _) (.cons rfl (.pB rfl) (.cons rfl (.i _) (.nil))))) (.cons rfl rfl (.ofI rfl) (.cons rfl rfl (.ofI rfl) (.cons rfl rfl (.cons (.i _) (.cons (.i _) (.cons (.i _) (.cons (.i _) (.cons (.i _) (.cons (.i _) (.cons (.i _) (.cons (.i _) (.cons (.i _) (.cons (.i _) (.cons (.i _) (.cons (.i _) (.cons (.i _) (.cons (.i _) (.cons (.i _) (.cons (.i _) (.cons (.i _) (.cons (.i _) (.cons (.i _) (.cons (.i _) (.cons (.i _) (.cons (.i _) (.cons (.i _) (.cons (.i _) (.cons (.i _) (.cons (.i _) (.cons (.i _) (.cons (.i _) (.cons (.pB rfl) (.cons (.i _) (.nil _ _))))))))))))))))))))))))))))))) (.nil))))) ?_
  refine AWp.cond rfl (fun hc5 => ?_) (fun hc5 => ?_)
  · replace h := bif_t hc5 h
    refine AWp.seq ?_
    refine AWp.region ?_
    refine AOps.go (op_build PL102 Z102 rfl rfl) rfl rfl rfl ?_
    refine AOps.gn (op_store SZ102 rfl rfl rfl rfl rfl (Nat.le_of_ble_eq_true rfl)) rfl rfl ?_
    refine AOps.go (op_assign rfl) rfl rfl rfl ?_
    refine AOps.fin (st' := ⟨[(4, .p 2 0), (5, .i (.int .i64 713))], ⟨[(1, [.i (.val (.slice none 0 0)), .i (.int .i64 b1_most), .i (.fn (.func 42) [] [])]), (2, [.i (.int .u8 0), .i (.int .u16 0), .i (.int .u16 0), .i (.int .u32 0), .i (.int .u32 0), .i (.bool false), .i (.str []), .i (.int .u64 0)]), (0, [.i (.int .u8 b0_conf.LanMAC.x_e0), .i (.int .u8 b0_conf.LanMAC.x_e1), .i (.int .u8 b0_conf.LanMAC.x_e2), .i (.int .u8 b0_conf.LanMAC.x_e3), .i (.int .u8 b0_conf.LanMAC.x_e4), .i (.int .u8 b0_conf.LanMAC.x_e5), .i (.int .u8 b0_conf.WanMAC.x_e0), .i (.int .u8 b0_conf.WanMAC.x_e1), .i (.int .u8 b0_conf.WanMAC.x_e2), .i (.int .u8 b0_conf.WanMAC.x_e3), .i (.int .u8 b0_conf.WanMAC.x_e4), .i (.int .u8 b0_conf.WanMAC.x_e5), .i (.int .u8 b0_conf.HopMAC.x_e0), .i (.int .u8 b0_conf.HopMAC.x_e1), .i (.int .u8 b0_conf.HopMAC.x_e2), .i (.int .u8 b0_conf.HopMAC.x_e3), .i (.int .u8 b0_conf.HopMAC.x_e4), .i (.int .u8 b0_conf.HopMAC.x_e5), .i (.int .u32 b0_conf.LanAddr), .i (.int .u32 b0_conf.WanAddr), .i (.int .i64 b0_conf.LanBits), .i (.int .i64 b0_conf.MaxSessions), .i (.int .i64 b0_conf.MaxMaps), .i (.int .i64 b0_conf.MaxConns), .i (.int .i64 b0_conf.MaxSubs), (en_api_Forward.vec b0_conf.Forwards), .i (.int .u32 b0_conf.DMZ), .i (.str b0_conf.UUID), .p 1 0, .i (.int .u32 b0_update)])], 3, Ext.emp⟩⟩) (Gh.by [] rfl (.cons rfl (.pB rfl) (.cons rfl (.i _) (.nil))) (.cons rfl rfl (.ofI rfl) (.cons rfl rfl (.ofI rfl) (.cons rfl rfl (.cons (.i _) (.cons (.i _) (.cons (.i _) (.cons (.i _) (.cons (.i _) (.cons (.i _) (.cons (.i _) (.cons (.i _) (.cons (.i _) (.cons (.i _) (.cons (.i _) (.cons (.i _) (.cons (.i _) (.cons (.i _) (.cons (.i _) (.cons (.i _) (.cons (.i _) (.cons (.i _) (.cons (.i _) (.cons (.i _) (.cons (.i _) (.cons (.i _) (.cons (.i _) (.cons (.i _) (.cons (.i _) (.cons (.i _) (.cons (.i _) (.cons (.i _) (.cons (.pB rfl) (.cons (.i _) (.nil _ _))))))))))))))))))))))))))))))) (.nil))))) ?_
    refine AWp.ret ?_
    exact FnQ.retE [0, 1] (st' := ⟨[(4, .p 2 0), (5, .i (.int .i64 713))], ⟨[(0, [.i (.int .u8 b0_conf.LanMAC.x_e0), .i (.int .u8 b0_conf.LanMAC.x_e1), .i (.int .u8 b0_conf.LanMAC.x_e2), .i (.int .u8 b0_conf.LanMAC.x_e3), .i (.int .u8 b0_conf.LanMAC.x_e4), .i (.int .u8 b0_conf.LanMAC.x_e5), .i (.int .u8 b0_conf.WanMAC.x_e0), .i (.int .u8 b0_conf.WanMAC.x_e1), .i (.int .u8 b0_conf.WanMAC.x_e2), .i (.int .u8 b0_conf.WanMAC.x_e3), .i (.int .u8 b0_conf.WanMAC.x_e4), .i (.int .u8 b0_conf.WanMAC.x_e5), .i (.int .u8 b0_conf.HopMAC.x_e0), .i (.int .u8 b0_conf.HopMAC.x_e1), .i (.int .u8 b0_conf.HopMAC.x_e2), .i (.int .u8 b0_conf.HopMAC.x_e3), .i (.int .u8 b0_conf.HopMAC.x_e4), .i (.int .u8 b0_conf.HopMAC.x_e5), .i (.int .u32 b0_conf.LanAddr), .i (.int .u32 b0_conf.WanAddr), .i (.int .i64 b0_conf.LanBits), .i (.int .i64 b0_conf.MaxSessions), .i (.int .i64 b0_conf.MaxMaps), .i (.int .i64 b0_conf.MaxConns), .i (.int .i64 b0_conf.MaxSubs), (en_api_Forward.vec b0_conf.Forwards), .i (.int .u32 b0_conf.DMZ), .i (.str b0_conf.UUID), .p 1 0, .i (.int .u32 b0_update)]), (1, [.i (.val (.slice none 0 0)), .i (.int .i64 b1_most), .i (.fn (.func 42) [] [])]), (2, [.i (.int .u8 0), .i (.int .u16 0), .i (.int .u16 0), .i (.int .u32 0), .i (.int .u32 0), .i (.bool false), .i (.str []), .i (.int .u64 0)])], 3, Ext.emp⟩⟩) (Gh.by [0, 1, 2] rfl (.cons rfl (.pB rfl) (.cons rfl (.i _) (.nil))) (.cons rfl rfl (.cons (.i _) (.cons (.i _) (.cons (.i _) (.cons (.i _) (.cons (.i _) (.cons (.i _) (.cons (.i _) (.cons (.i _) (.cons (.i _) (.cons (.i _) (.cons (.i _) (.cons (.i _) (.cons (.i _) (.cons (.i _) (.cons (.i _) (.cons (.i _) (.cons (.i _) (.cons (.i _) (.cons (.i _) (.cons (.i _) (.cons (.i _) (.cons (.i _) (.cons (.i _) (.cons (.i _) (.cons (.i _) (.cons (.i _) (.cons (.i _) (.cons (.i _) (.cons (.pB rfl) (.cons (.i _) (.nil _ _))))))))))))))))))))))))))))))) (.cons rfl rfl (.ofI rfl) (.cons rfl rfl (.ofI rfl) (.nil))))) (RetV.r2 rfl (.agg A102 rfl rfl (Nat.le_of_ble_eq_true rfl) rfl) (.tmp rfl)) (congrArg (fun (out : T_api_Entry × Int) => (.tup [.agg [.i (.int .u8 out.1.Mapping.Proto), .i (.int .u16 out.1.Mapping.Ext), .i (.int .u16 out.1.Mapping.To), .i (.int .u32 out.1.Mapping.Remote), .i (.int .u32 out.1.Mapping.Host), .i (.bool out.1.Enabled), .i (.str out.1.Words), .i (.int .u64 out.1.Ends)], .i (.int .i64 out.2)] : V)) (Option.some.inj h)) (congrArg (fun (out : T_api_Entry × Int) => (⟨[(0, [.i (.int .u8 b0_conf.LanMAC.x_e0), .i (.int .u8 b0_conf.LanMAC.x_e1), .i (.int .u8 b0_conf.LanMAC.x_e2), .i (.int .u8 b0_conf.LanMAC.x_e3), .i (.int .u8 b0_conf.LanMAC.x_e4), .i (.int .u8 b0_conf.LanMAC.x_e5), .i (.int .u8 b0_conf.WanMAC.x_e0), .i (.int .u8 b0_conf.WanMAC.x_e1), .i (.int .u8 b0_conf.WanMAC.x_e2), .i (.int .u8 b0_conf.WanMAC.x_e3), .i (.int .u8 b0_conf.WanMAC.x_e4), .i (.int .u8 b0_conf.WanMAC.x_e5), .i (.int .u8 b0_conf.HopMAC.x_e0), .i (.int .u8 b0_conf.HopMAC.x_e1), .i (.int .u8 b0_conf.HopMAC.x_e2), .i (.int .u8 b0_conf.HopMAC.x_e3), .i (.int .u8 b0_conf.HopMAC.x_e4), .i (.int .u8 b0_conf.HopMAC.x_e5), .i (.int .u32 b0_conf.LanAddr), .i (.int .u32 b0_conf.WanAddr), .i (.int .i64 b0_conf.LanBits), .i (.int .i64 b0_conf.MaxSessions), .i (.int .i64 b0_conf.MaxMaps), .i (.int .i64 b0_conf.MaxConns), .i (.int .i64 b0_conf.MaxSubs), (en_api_Forward.vec b0_conf.Forwards), .i (.int .u32 b0_conf.DMZ), .i (.str b0_conf.UUID), .p 1 0, .i (.int .u32 b0_update)]), (1, [.i (.val (.slice none 0 0)), .i (.int .i64 b1_most), .i (.fn (.func 42) [] [])])], 3, Ext.emp⟩ : Hs)) (Option.some.inj h))
  · replace h := bif_f hc5 h
    refine AWp.skip ?_
    refine AWp.seq ?_
    refine AWp.region ?_
    refine AOps.go (op_move rfl) rfl rfl rfl ?_
    refine AOps.go (op_nilCheck rfl (.p _ _)) rfl rfl rfl ?_
    refine AOps.go (op_fieldAddr_p F105_1 rfl) rfl rfl rfl ?_
    refine AOps.go (op_load_p L94 rfl rfl rfl) rfl rfl rfl ?_
    refine AOps.go (op_move rfl) rfl rfl rfl ?_
    obtain ⟨v6_t24, h_v6_t24, h⟩ := lt_some h
    refine AOps.go (op_conv_int U40 U3 rfl h_v6_t24) rfl rfl rfl ?_
    obtain ⟨v7_r, h_v7_r, h⟩ := bind_some h
    refine AOps.go (op_call Tryz.func187 rfl rfl rfl (CallOK.is (w := .tup [.agg [.i (.int .u8 v7_r.1.x_proto), .i (.int .u16 v7_r.1.x_ext), .i (.int .u32 v7_r.1.x_remote)], .agg [.i (.int .u8 v7_r.2.1.Mapping.Proto), .i (.int .u16 v7_r.2.1.Mapping.Ext), .i (.int .u16 v7_r.2.1.Mapping.To), .i (.int .u32 v7_r.2.1.Mapping.Remote), .i (.int .u32 v7_r.2.1.Mapping.Host), .i (.bool v7_r.2.1.Enabled), .i (.str v7_r.2.1.Words), .i (.int .u64 v7_r.2.1.Ends)], .i (.bool v7_r.2.2)]) (s2 := ⟨[(1, [.i (.val (.slice none 0 0)), .i (.int .i64 b1_most), .i (.fn (.func 42) [] [])]), (2, [.i (.int .u8 0), .i (.int .u16 0), .i (.int .u16 0), .i (.int .u32 0), .i (.int .u32 0), .i (.bool false), .i (.str []), .i (.int .u64 0)]), (0, [.i (.int .u8 b0_conf.LanMAC.x_e0), .i (.int .u8 b0_conf.LanMAC.x_e1), .i (.int .u8 b0_conf.LanMAC.x_e2), .i (.int .u8 b0_conf.LanMAC.x_e3), .i (.int .u8 b0_conf.LanMAC.x_e4), .i (.int .u8 b0_conf.LanMAC.x_e5), .i (.int .u8 b0_conf.WanMAC.x_e0), .i (.int .u8 b0_conf.WanMAC.x_e1), .i (.int .u8 b0_conf.WanMAC.x_e2), .i (.int .u8 b0_conf.WanMAC.x_e3), .i (.int .u8 b0_conf.WanMAC.x_e4), .i (.int .u8 b0_conf.WanMAC.x_e5), .i (.int .u8 b0_conf.HopMAC.x_e0), .i (.int .u8 b0_conf.HopMAC.x_e1), .i (.int .u8 b0_conf.HopMAC.x_e2), .i (.int .u8 b0_conf.HopMAC.x_e3), .i (.int .u8 b0_conf.HopMAC.x_e4), .i (.int .u8 b0_conf.HopMAC.x_e5), .i (.int .u32 b0_conf.LanAddr), .i (.int .u32 b0_conf.WanAddr), .i (.int .i64 b0_conf.LanBits), .i (.int .i64 b0_conf.MaxSessions), .i (.int .i64 b0_conf.MaxMaps), .i (.int .i64 b0_conf.MaxConns), .i (.int .i64 b0_conf.MaxSubs), (en_api_Forward.vec b0_conf.Forwards), .i (.int .u32 b0_conf.DMZ), .i (.str b0_conf.UUID), .p 1 0, .i (.int .u32 b0_update)])], 5, Ext.emp⟩) (CallOK.by [1] (f187_c h_v7_r) rfl (.cons (.pB rfl) (.cons (.i _) (.nil _ _))) (.cons rfl rfl (.ofI rfl) (.nil)) (.tupL (.cons (.aggI rfl) (.cons (.aggI rfl) (.cons (.i _) (.nil _ _))))) (.cons (Nat.le_of_ble_eq_true rfl) (.ofI rfl) (.nil))) rfl rfl)) rfl rfl rfl ?_
    refine AOps.go (op_move rfl) rfl rfl rfl ?_
    refine AOps.go (op_extract rfl rfl) rfl rfl rfl ?_
    refine AOps.go (op_extract rfl rfl) rfl rfl rfl ?_
    refine AOps.go (op_extract rfl rfl) rfl rfl rfl ?_
    refine AOps.go (op_alloc Z98) rfl rfl rfl ?_
    refine AOps.go (op_alloc Z102) rfl rfl rfl ?_
    refine AOps.gn (op_store SZ98 rfl rfl rfl rfl rfl (Nat.le_of_ble_eq_true rfl)) rfl rfl ?_
    refine AOps.gn (op_store SZ102 rfl rfl rfl rfl rfl (Nat.le_of_ble_eq_true rfl)) rfl rfl ?_
    refine AOps.go (op_assign rfl) rfl rfl rfl ?_
    refine AOps.fin (st' := ⟨[(4, .p 2 0), (7, .p 6 0)], ⟨[(6, [.i (.int .u8 v7_r.2.1.Mapping.Proto), .i (.int .u16 v7_r.2.1.Mapping.Ext), .i (.int .u16 v7_r.2.1.Mapping.To), .i (.int .u32 v7_r.2.1.Mapping.Remote), .i (.int .u32 v7_r.2.1.Mapping.Host), .i (.bool v7_r.2.1.Enabled), .i (.str v7_r.2.1.Words), .i (.int .u64 v7_r.2.1.Ends)]), (1, [.i (.val (.slice none 0 0)), .i (.int .i64 b1_most), .i (.fn (.func 42) [] [])]), (2, [.i (.int .u8 0), .i (.int .u16 0), .i (.int .u16 0), .i (.int .u32 0), .i (.int .u32 0), .i (.bool false), .i (.str []), .i (.int .u64 0)]), (0, [.i (.int .u8 b0_conf.LanMAC.x_e0), .i (.int .u8 b0_conf.LanMAC.x_e1), .i (.int .u8 b0_conf.LanMAC.x_e2), .i (.int .u8 b0_conf.LanMAC.x_e3), .i (.int .u8 b0_conf.LanMAC.x_e4), .i (.int .u8 b0_conf.LanMAC.x_e5), .i (.int .u8 b0_conf.WanMAC.x_e0), .i (.int .u8 b0_conf.WanMAC.x_e1), .i (.int .u8 b0_conf.WanMAC.x_e2), .i (.int .u8 b0_conf.WanMAC.x_e3), .i (.int .u8 b0_conf.WanMAC.x_e4), .i (.int .u8 b0_conf.WanMAC.x_e5), .i (.int .u8 b0_conf.HopMAC.x_e0), .i (.int .u8 b0_conf.HopMAC.x_e1), .i (.int .u8 b0_conf.HopMAC.x_e2), .i (.int .u8 b0_conf.HopMAC.x_e3), .i (.int .u8 b0_conf.HopMAC.x_e4), .i (.int .u8 b0_conf.HopMAC.x_e5), .i (.int .u32 b0_conf.LanAddr), .i (.int .u32 b0_conf.WanAddr), .i (.int .i64 b0_conf.LanBits), .i (.int .i64 b0_conf.MaxSessions), .i (.int .i64 b0_conf.MaxMaps), .i (.int .i64 b0_conf.MaxConns), .i (.int .i64 b0_conf.MaxSubs), (en_api_Forward.vec b0_conf.Forwards), .i (.int .u32 b0_conf.DMZ), .i (.str b0_conf.UUID), .p 1 0, .i (.int .u32 b0_update)])], 7, Ext.emp⟩⟩) (Gh.by [] rfl (.cons rfl (.pB rfl) (.cons rfl (.pB rfl) (.nil))) (.cons rfl rfl (.ofI rfl) (.cons rfl rfl (.ofI rfl) (.cons rfl rfl (.ofI rfl) (.cons rfl rfl (.cons (.i _) (.cons (.i _) (.cons (.i _) (.cons (.i _) (.cons (.i _) (.cons (.i _) (.cons (.i _) (.cons (.i _) (.cons (.i _) (.cons (.i _) (.cons (.i _) (.cons (.i _) (.cons (.i _) (.cons (.i _) (.cons (.i _) (.cons (.i _) (.cons (.i _) (.cons (.i _) (.cons (.i _) (.cons (.i _) (.cons (.i _) (.cons (.i _) (.cons (.i _) (.cons (.i _) (.cons (.i _) (.cons (.i _) (.cons (.i _) (.cons (.i _) (.cons (.pB rfl) (.cons (.i _) (.nil _ _))))))))))))))))))))))))))))))) (.nil)))))) ?_
    refine AWp.seq ?_
    refine AWp.region ?_
    refine AOps.go (op_load_agg_p A102 rfl rfl (Nat.le_of_ble_eq_true rfl) rfl) rfl rfl rfl ?_
    refine AOps.gn (op_store SZ102 rfl rfl rfl rfl rfl (Nat.le_of_ble_eq_true rfl)) rfl rfl ?_
    refine AOps.go (op_assign rfl) rfl rfl rfl ?_
    refine AOps.fin (st' := ⟨[(4, .p 2 0), (5, .i (.int .i64 0))], ⟨[(1, [.i (.val (.slice none 0 0)), .i (.int .i64 b1_most), .i (.fn (.func 42) [] [])]), (2, [.i (.int .u8 v7_r.2.1.Mapping.Proto), .i (.int .u16 v7_r.2.1.Mapping.Ext), .i (.int .u16 v7_r.2.1.Mapping.To), .i (.int .u32 v7_r.2.1.Mapping.Remote), .i (.int .u32 v7_r.2.1.Mapping.Host), .i (.bool v7_r.2.1.Enabled), .i (.str v7_r.2.1.Words), .i (.int .u64 v7_r.2.1.Ends)]), (0, [.i (.int .u8 b0_conf.LanMAC.x_e0), .i (.int .u8 b0_conf.LanMAC.x_e1), .i (.int .u8 b0_conf.LanMAC.x_e2), .i (.int .u8 b0_conf.LanMAC.x_e3), .i (.int .u8 b0_conf.LanMAC.x_e4), .i (.int .u8 b0_conf.LanMAC.x_e5), .i (.int .u8 b0_conf.WanMAC.x_e0), .i (.int .u8 b0_conf.WanMAC.x_e1), .i (.int .u8 b0_conf.WanMAC.x_e2), .i (.int .u8 b0_conf.WanMAC.x_e3), .i (.int .u8 b0_conf.WanMAC.x_e4), .i (.int .u8 b0_conf.WanMAC.x_e5), .i (.int .u8 b0_conf.HopMAC.x_e0), .i (.int .u8 b0_conf.HopMAC.x_e1), .i (.int .u8 b0_conf.HopMAC.x_e2), .i (.int .u8 b0_conf.HopMAC.x_e3), .i (.int .u8 b0_conf.HopMAC.x_e4), .i (.int .u8 b0_conf.HopMAC.x_e5), .i (.int .u32 b0_conf.LanAddr), .i (.int .u32 b0_conf.WanAddr), .i (.int .i64 b0_conf.LanBits), .i (.int .i64 b0_conf.MaxSessions), .i (.int .i64 b0_conf.MaxMaps), .i (.int .i64 b0_conf.MaxConns), .i (.int .i64 b0_conf.MaxSubs), (en_api_Forward.vec b0_conf.Forwards), .i (.int .u32 b0_conf.DMZ), .i (.str b0_conf.UUID), .p 1 0, .i (.int .u32 b0_update)])], 7, Ext.emp⟩⟩) (Gh.by [] rfl (.cons rfl (.pB rfl) (.cons rfl (.i _) (.nil))) (.cons rfl rfl (.ofI rfl) (.cons rfl rfl (.ofI rfl) (.cons rfl rfl (.cons (.i _) (.cons (.i _) (.cons (.i _) (.cons (.i _) (.cons (.i _) (.cons (.i _) (.cons (.i _) (.cons (.i _) (.cons (.i _) (.cons (.i _) (.cons (.i _) (.cons (.i _) (.cons (.i _) (.cons (.i _) (.cons (.i _) (.cons (.i _) (.cons (.i _) (.cons (.i _) (.cons (.i _) (.cons (.i _) (.cons (.i _) (.cons (.i _) (.cons (.i _) (.cons (.i _) (.cons (.i _) (.cons (.i _) (.cons (.i _) (.cons (.i _) (.cons (.pB rfl) (.cons (.i _) (.nil _ _))))))))))))))))))))))))))))))) (.nil))))) ?_
    refine AWp.ret ?_
    exact FnQ.retE [0, 1] (st' := ⟨[(4, .p 2 0), (5, .i (.int .i64 0))], ⟨[(0, [.i (.int .u8 b0_conf.LanMAC.x_e0), .i (.int .u8 b0_conf.LanMAC.x_e1), .i (.int .u8 b0_conf.LanMAC.x_e2), .i (.int .u8 b0_conf.LanMAC.x_e3), .i (.int .u8 b0_conf.LanMAC.x_e4), .i (.int .u8 b0_conf.LanMAC.x_e5), .i (.int .u8 b0_conf.WanMAC.x_e0), .i (.int .u8 b0_conf.WanMAC.x_e1), .i (.int .u8 b0_conf.WanMAC.x_e2), .i (.int .u8 b0_conf.WanMAC.x_e3), .i (.int .u8 b0_conf.WanMAC.x_e4), .i (.int .u8 b0_conf.WanMAC.x_e5), .i (.int .u8 b0_conf.HopMAC.x_e0), .i (.int .u8 b0_conf.HopMAC.x_e1), .i (.int .u8 b0_conf.HopMAC.x_e2), .i (.int .u8 b0_conf.HopMAC.x_e3), .i (.int .u8 b0_conf.HopMAC.x_e4), .i (.int .u8 b0_conf.HopMAC.x_e5), .i (.int .u32 b0_conf.LanAddr), .i (.int .u32 b0_conf.WanAddr), .i (.int .i64 b0_conf.LanBits), .i (.int .i64 b0_conf.MaxSessions), .i (.int .i64 b0_conf.MaxMaps), .i (.int .i64 b0_conf.MaxConns), .i (.int .i64 b0_conf.MaxSubs), (en_api_Forward.vec b0_conf.Forwards), .i (.int .u32 b0_conf.DMZ), .i (.str b0_conf.UUID), .p 1 0, .i (.int .u32 b0_update)]), (1, [.i (.val (.slice none 0 0)), .i (.int .i64 b1_most), .i (.fn (.func 42) [] [])]), (2, [.i (.int .u8 v7_r.2.1.Mapping.Proto), .i (.int .u16 v7_r.2.1.Mapping.Ext), .i (.int .u16 v7_r.2.1.Mapping.To), .i (.int .u32 v7_r.2.1.Mapping.Remote), .i (.int .u32 v7_r.2.1.Mapping.Host), .i (.bool v7_r.2.1.Enabled), .i (.str v7_r.2.1.Words), .i (.int .u64 v7_r.2.1.Ends)])], 3, Ext.emp⟩⟩) (Gh.by [0, 1, 2] rfl (.cons rfl (.pB rfl) (.cons rfl (.i _) (.nil))) (.cons rfl rfl (.cons (.i _) (.cons (.i _) (.cons (.i _) (.cons (.i _) (.cons (.i _) (.cons (.i _) (.cons (.i _) (.cons (.i _) (.cons (.i _) (.cons (.i _) (.cons (.i _) (.cons (.i _) (.cons (.i _) (.cons (.i _) (.cons (.i _) (.cons (.i _) (.cons (.i _) (.cons (.i _) (.cons (.i _) (.cons (.i _) (.cons (.i _) (.cons (.i _) (.cons (.i _) (.cons (.i _) (.cons (.i _) (.cons (.i _) (.cons (.i _) (.cons (.i _) (.cons (.pB rfl) (.cons (.i _) (.nil _ _))))))))))))))))))))))))))))))) (.cons rfl rfl (.ofI rfl) (.cons rfl rfl (.ofI rfl) (.nil))))) (RetV.r2 rfl (.agg A102 rfl rfl (Nat.le_of_ble_eq_true rfl) rfl) (.tmp rfl)) (congrArg (fun (out : T_api_Entry × Int) => (.tup [.agg [.i (.int .u8 out.1.Mapping.Proto), .i (.int .u16 out.1.Mapping.Ext), .i (.int .u16 out.1.Mapping.To), .i (.int .u32 out.1.Mapping.Remote), .i (.int .u32 out.1.Mapping.Host), .i (.bool out.1.Enabled), .i (.str out.1.Words), .i (.int .u64 out.1.Ends)], .i (.int .i64 out.2)] : V)) (Option.some.inj h)) (congrArg (fun (out : T_api_Entry × Int) => (⟨[(0, [.i (.int .u8 b0_conf.LanMAC.x_e0), .i (.int .u8 b0_conf.LanMAC.x_e1), .i (.int .u8 b0_conf.LanMAC.x_e2), .i (.int .u8 b0_conf.LanMAC.x_e3), .i (.int .u8 b0_conf.LanMAC.x_e4), .i (.int .u8 b0_conf.LanMAC.x_e5), .i (.int .u8 b0_conf.WanMAC.x_e0), .i (.int .u8 b0_conf.WanMAC.x_e1), .i (.int .u8 b0_conf.WanMAC.x_e2), .i (.int .u8 b0_conf.WanMAC.x_e3), .i (.int .u8 b0_conf.WanMAC.x_e4), .i (.int .u8 b0_conf.WanMAC.x_e5), .i (.int .u8 b0_conf.HopMAC.x_e0), .i (.int .u8 b0_conf.HopMAC.x_e1), .i (.int .u8 b0_conf.HopMAC.x_e2), .i (.int .u8 b0_conf.HopMAC.x_e3), .i (.int .u8 b0_conf.HopMAC.x_e4), .i (.int .u8 b0_conf.HopMAC.x_e5), .i (.int .u32 b0_conf.LanAddr), .i (.int .u32 b0_conf.WanAddr), .i (.int .i64 b0_conf.LanBits), .i (.int .i64 b0_conf.MaxSessions), .i (.int .i64 b0_conf.MaxMaps), .i (.int .i64 b0_conf.MaxConns), .i (.int .i64 b0_conf.MaxSubs), (en_api_Forward.vec b0_conf.Forwards), .i (.int .u32 b0_conf.DMZ), .i (.str b0_conf.UUID), .p 1 0, .i (.int .u32 b0_update)]), (1, [.i (.val (.slice none 0 0)), .i (.int .i64 b1_most), .i (.fn (.func 42) [] [])])], 3, Ext.emp⟩ : Hs)) (Option.some.inj h))

/- hearth/value.Way -/
def f188 (fu : Nat) (proto : Int) : Option (Str) :=
  bif (decide (proto = 6)) then
    some s_TCP
  else
    bif (decide (proto = 17)) then
      some s_UDP
    else
      some []
set_option maxRecDepth 100000 in
set_option maxHeartbeats 4000000 in
theorem f188_c {fu : Nat} {proto : Int} {out : Str} (h : f188 fu proto = some out) : Pure Tryz.prog GG 188 [.i (.int .u8 proto)] (.i (.str out)) := by
  refine Pure.of (NoIds.cons (NoId.i _) NoIds.nil) (NoId.i _) (ACall.of_body Tryz.func188 rfl (by kernel_rfl) ?_)
  unfold f188 at h
  refine AWp.seq ?_
  refine AWp.region ?_
  refine AOps.go (op_assign rfl) rfl rfl rfl ?_
  refine AOps.nil ?_
  refine AWp.seq ?_
  refine AWp.seq ?_
  refine AWp.region ?_
  refine AOps.go (op_move rfl) rfl rfl rfl ?_
  refine AOps.nil ?_
  refine AWp.block ?_
  refine AWp.seq ?_
  refine AWp.region ?_
  refine AOps.go (op_cmp rfl rfl rfl) rfl rfl rfl ?_
  refine AOps.go (op_assign rfl) rfl rfl rfl ?_
  refine AOps.nil ?_
  refine AWp.cond rfl (fun hc3 => ?_) (fun hc3 => ?_)
  · replace h := bif_t hc3 h
    refine AWp.seq ?_
    refine AWp.region ?_
    refine AOps.go (op_assign rfl) rfl rfl rfl ?_
    refine AOps.nil ?_
    refine AWp.ret ?_
    exact FnQ.retP (Gh.refl _) (RetV.r1 rfl (.tmp rfl)) (congrArg (fun (out : Str) => (.i (.str out) : V)) (Option.some.inj h))
  · replace h := bif_f hc3 h
    refine AWp.seq ?_
    refine AWp.region ?_
    refine AOps.go (op_cmp rfl rfl rfl) rfl rfl rfl ?_
    refine AOps.go (op_assign rfl) rfl rfl rfl ?_
    refine AOps.nil ?_
    refine AWp.cond rfl (fun hc4 => ?_) (fun hc4 => ?_)
    · replace h := bif_t hc4 h
      refine AWp.seq ?_
      refine AWp.region ?_
      refine AOps.go (op_assign rfl) rfl rfl rfl ?_
      refine AOps.nil ?_
      refine AWp.ret ?_
      exact FnQ.retP (Gh.refl _) (RetV.r1 rfl (.tmp rfl)) (congrArg (fun (out : Str) => (.i (.str out) : V)) (Option.some.inj h))
    · replace h := bif_f hc4 h
      refine AWp.skip ?_
      refine AWp.seq ?_
      refine AWp.region ?_
      refine AOps.go (op_assign rfl) rfl rfl rfl ?_
      refine AOps.nil ?_
      refine AWp.ret ?_
      exact FnQ.retP (Gh.refl _) (RetV.r1 rfl (.tmp rfl)) (congrArg (fun (out : Str) => (.i (.str out) : V)) (Option.some.inj h))

/- hearth/igd.args -/
def f69_1_l52 (fu : Nat) (v1_list : (List Str)) : Nat → Int → (List T_api_Arg) → Option ((List T_api_Arg))
  | 0, _, _ => none
  | m + 1, v37_i, v38_l0 =>
    lt (IntKind.wrap .i64 (v37_i + 1)) fun v53_t5 =>
    bif (decide (v53_t5 < (v1_list.length : Int))) then
      (ix v1_list v37_i).bind fun v59_y =>
      lt (IntKind.wrap .i64 (v37_i + 1)) fun v60_t18 =>
      (ix v1_list v60_t18).bind fun v61_y =>
      gd (Nat.ble ((v38_l0.length + [(⟨v59_y, v61_y⟩ : T_api_Arg)].length) * 32) 140737488355328) <|
      lt (IntKind.wrap .i64 (v37_i + 2)) fun v63_t10 =>
      f69_1_l52 fu v1_list m v63_t10 (v38_l0 ++ [(⟨v59_y, v61_y⟩ : T_api_Arg)])
    else
      some v38_l0
def f69_1 (fu : Nat) (v1_list : (List Str)) : Option ((List T_api_Arg)) :=
  f69_1_l52 fu v1_list fu 0 ([] : List T_api_Arg)
set_option maxRecDepth 100000 in
set_option maxHeartbeats 4000000 in
theorem f69_1_c {fu : Nat} {v1_list : (List Str)} {out : (List T_api_Arg)} (h : f69_1 fu v1_list = some out) : ACall Tryz.prog GG 69 [(en_str.vec v1_list)] ⟨[], 0, Ext.emp⟩ (EqK (.sl 0 0 out.length 2) ⟨[(0, (en_api_Arg.cs out))], 1, Ext.emp⟩) := by
  refine ACall.of_body Tryz.func69 rfl (by kernel_rfl) ?_
  unfold f69_1 at h
  refine AWp.seq ?_
  refine AWp.region ?_
  refine AOps.go (op_assign rfl) rfl rfl rfl ?_
  refine AOps.nil ?_
  refine AWp.seq ?_
  refine AWp.seq ?_
  refine AWp.region ?_
  refine AOps.go (op_assign rfl) rfl rfl rfl ?_
  refine AOps.nil ?_
  refine AWp.block ?_
  refine AWp.loopJ (fun (a : Int × (List T_api_Arg)) => (⟨[(0, (en_str.vec v1_list)), (2, .sl 0 0 a.2.length 2), (3, .i (.int .i64 a.1))], ⟨[(0, (en_api_Arg.cs a.2))], 1, Ext.emp⟩⟩ : St)) (fun m a => f69_1_l52 fu v1_list m a.1 a.2 = some out) fu (0, ([] : List T_api_Arg)) h (Gh.trans (Gh.nilSl 2 (t := 2) rfl) (Gh.by [0] rfl (.cons rfl (.i _) (.cons rfl (.slB rfl rfl) (.cons rfl (.i _) (.nil)))) (.cons rfl rfl (.mapIeq rfl) (.nil)))) (fun a h => by cases h) ?_
  intro m a h
  obtain ⟨v37_i, v38_l0⟩ := a
  change AWp _ _ _ _ _ _ _ _ (⟨[(0, (en_str.vec v1_list)), (2, .sl 0 0 v38_l0.length 2), (3, .i (.int .i64 v37_i))], ⟨[(0, (en_api_Arg.cs v38_l0))], 1, Ext.emp⟩⟩ : St)
  replace h : f69_1_l52 fu v1_list (m + 1) v37_i v38_l0 = some out := h
  rw [f69_1_l52] at h
  refine AWp.seq ?_
  refine AWp.seq ?_
  refine AWp.region ?_
  refine AOps.go (op_move rfl) rfl rfl rfl ?_
  obtain ⟨v53_t5, h_v53_t5, h⟩ := lt_some h
  refine AOps.go (op_arith rfl rfl (congrArg some h_v53_t5)) rfl rfl rfl ?_
  refine AOps.go (op_move rfl) rfl rfl rfl ?_
  refine AOps.go (op_len_vec rfl U26 rfl) rfl rfl rfl ?_
  refine AOps.go (op_cmp rfl rfl rfl) rfl rfl rfl ?_
  refine AOps.fin (st' := ⟨[(0, (en_str.vec v1_list)), (2, .sl 0 0 v38_l0.length 2), (3, .i (.int .i64 v37_i)), (8, .i (.bool (decide (v53_t5 < (v1_list.length : Int)))))], ⟨[(0, (en_api_Arg.cs v38_l0))], 1, Ext.emp⟩⟩) (Gh.by [] rfl (.cons rfl (.i _) (.cons rfl (.slB rfl rfl) (.cons rfl (.i _) (.cons rfl (.i _) (.nil))))) (.cons rfl rfl (.mapIeq rfl) (.nil))) ?_
  refine AWp.cond rfl (fun hc54 => ?_) (fun hc54 => ?_)
  · replace h := bif_t hc54 h
    refine AWp.skip ?_
    refine AWp.seq ?_
    refine AWp.block ?_
    obtain ⟨v59_y, h_v59_y, h⟩ := bind_some h
    obtain ⟨v60_t18, h_v60_t18, h⟩ := lt_some h
    obtain ⟨v61_y, h_v61_y, h⟩ := bind_some h
    obtain ⟨hg62, h⟩ := gd_some h
    refine AWp.drawnG (st' := ⟨[(0, (en_str.vec v1_list)), (2, .sl 1 0 (v38_l0 ++ [(⟨v59_y, v61_y⟩ : T_api_Arg)]).length 2), (3, .i (.int .i64 v37_i))], ⟨[(1, (en_api_Arg.cs (v38_l0 ++ [(⟨v59_y, v61_y⟩ : T_api_Arg)])))], 2, Ext.emp⟩⟩) (fun k => match k with | 0 => (⟨[(0, (en_api_Arg.cs v38_l0))], 1, Ext.emp⟩ : Hs) | _ => (⟨[(1, (en_api_Arg.cs (v38_l0 ++ [(⟨v59_y, v61_y⟩ : T_api_Arg)])))], 2, Ext.emp⟩ : Hs)) 1 rfl rfl (.pure (fun s => op_move rfl) rfl rfl (.pure (fun s => op_move rfl) rfl rfl (.pure (fun s => op_move rfl) rfl rfl (.pure (fun s => op_indexAddr_vec ST26 rfl rfl (ix_some h_v59_y).1 (ix_some h_v59_y).2.2) rfl rfl (.pure (fun s => op_load_vp L9 rfl (En.cell (f := 0) en_str (ix_some h_v59_y).2.1 rfl rfl)) rfl rfl (.pure (fun s => op_move rfl) rfl rfl (.pure (fun s => op_move rfl) rfl rfl (.pure (fun s => op_arith rfl rfl (congrArg some h_v60_t18)) rfl rfl (.pure (fun s => op_indexAddr_vec ST26 rfl rfl (ix_some h_v61_y).1 (ix_some h_v61_y).2.2) rfl rfl (.pure (fun s => op_load_vp L9 rfl (En.cell (f := 0) en_str (ix_some h_v61_y).2.1 rfl rfl)) rfl rfl (.pure (fun s => op_build PL31 Z31 rfl rfl) rfl rfl (.pure (fun s => op_buildSliceV (es := [(⟨v59_y, v61_y⟩ : T_api_Arg)].flatMap en_api_Arg.f) U29 SZ31 Z31 rfl rfl rfl rfl rfl) rfl rfl (.wr (LOp.is (op_appendE en_api_Arg (l := v38_l0) (r := [(⟨v59_y, v61_y⟩ : T_api_Arg)]) rfl AP29_29 rfl rfl rfl (En.sealEq en_api_Arg v38_l0) (En.sealLe en_api_Arg v38_l0) rfl (SrcV.vec _ _ _) rfl hg62) rfl rfl) rfl rfl (.pure (fun s => op_assign rfl) rfl rfl (.nil _ _))))))))))))))) (by kernel_rfl) ?_ ?_
    · exact Gh.by [] rfl (.cons rfl (.i _) (.cons rfl (.slB rfl rfl) (.cons rfl (.i _) (.nil)))) (.cons rfl rfl (.mapIeq rfl) (.nil))
    refine AWp.region ?_
    refine AOps.go (op_move rfl) rfl rfl rfl ?_
    obtain ⟨v63_t10, h_v63_t10, h⟩ := lt_some h
    refine AOps.go (op_arith rfl rfl (congrArg some h_v63_t10)) rfl rfl rfl ?_
    refine AOps.go (op_assign rfl) rfl rfl rfl ?_
    refine AOps.fin (st' := ⟨[(0, (en_str.vec v1_list)), (2, .sl 1 0 (v38_l0 ++ [(⟨v59_y, v61_y⟩ : T_api_Arg)]).length 2), (3, .i (.int .i64 v63_t10))], ⟨[(1, (en_api_Arg.cs (v38_l0 ++ [(⟨v59_y, v61_y⟩ : T_api_Arg)])))], 2, Ext.emp⟩⟩) (Gh.by [] rfl (.cons rfl (.i _) (.cons rfl (.slB rfl rfl) (.cons rfl (.i _) (.nil)))) (.cons rfl rfl (.mapIeq rfl) (.nil))) ?_
    exact ⟨(v63_t10, (v38_l0 ++ [(⟨v59_y, v61_y⟩ : T_api_Arg)])), h, Gh.by [1] rfl (.cons rfl (.i _) (.cons rfl (.slB rfl rfl) (.cons rfl (.i _) (.nil)))) (.cons rfl rfl (.mapIeq rfl) (.nil))⟩
  · replace h := bif_f hc54 h
    refine AWp.exit ?_
    refine AWp.seq ?_
    refine AWp.region ?_
    refine AOps.go (op_move rfl) rfl rfl rfl ?_
    refine AOps.go (op_assign rfl) rfl rfl rfl ?_
    refine AOps.nil ?_
    refine AWp.ret ?_
    exact FnQ.retE [0] (st' := ⟨[(2, .sl 0 0 v38_l0.length 2)], ⟨[(0, (en_api_Arg.cs v38_l0))], 1, Ext.emp⟩⟩) (Gh.by [0] rfl (.cons rfl (.slB rfl rfl) (.nil)) (.cons rfl rfl (.mapIeq rfl) (.nil))) (RetV.r1 rfl (.tmp rfl)) (congrArg (fun (out : (List T_api_Arg)) => (.sl 0 0 out.length 2 : V)) (Option.some.inj h)) (congrArg (fun (out : (List T_api_Arg)) => (⟨[(0, (en_api_Arg.cs out))], 1, Ext.emp⟩ : Hs)) (Option.some.inj h))

/- hearth/igd.where -/
def f139 (fu : Nat) (e : T_api_Entry) : Option ((List T_api_Arg)) :=
  (f70 fu e.Mapping.Remote).bind fun v14_r =>
  lt (IntKind.wrap .u64 e.Mapping.Ext) fun v15_t10 =>
  (f71 fu v15_t10).bind fun v16_r =>
  (f188 fu e.Mapping.Proto).bind fun v17_r =>
  (f69_1 fu [s_NewRemoteHost, v14_r, s_NewExternalPort, v16_r, s_NewProtocol, v17_r]).bind fun v18_r =>
  some v18_r
set_option maxRecDepth 100000 in
set_option maxHeartbeats 4000000 in
theorem f139_c {fu : Nat} {e : T_api_Entry} {out : (List T_api_Arg)} (h : f139 fu e = some out) : ACall Tryz.prog GG 139 [.agg [.i (.int .u8 e.Mapping.Proto), .i (.int .u16 e.Mapping.Ext), .i (.int .u16 e.Mapping.To), .i (.int .u32 e.Mapping.Remote), .i (.int .u32 e.Mapping.Host), .i (.bool e.Enabled), .i (.str e.Words), .i (.int .u64 e.Ends)]] ⟨[], 0, Ext.emp⟩ (EqK (.sl 0 0 out.length 2) ⟨[(0, (en_api_Arg.cs out))], 1, Ext.emp⟩) := by
  refine ACall.of_body Tryz.func139 rfl (by kernel_rfl) ?_
  unfold f139 at h
  refine AWp.seq ?_
  refine AWp.region ?_
  refine AOps.go (op_box rfl rfl) rfl rfl rfl ?_
  refine AOps.go (op_assign rfl) rfl rfl rfl ?_
  refine AOps.nil ?_
  refine AWp.seq ?_
  obtain ⟨v14_r, h_v14_r, h⟩ := bind_some h
  obtain ⟨v15_t10, h_v15_t10, h⟩ := lt_some h
  obtain ⟨v16_r, h_v16_r, h⟩ := bind_some h
  obtain ⟨v17_r, h_v17_r, h⟩ := bind_some h
  obtain ⟨v18_r, h_v18_r, h⟩ := bind_some h
  refine AWp.drawnG (st' := ⟨[(2, .sl 1 0 v18_r.length 2)], ⟨[(1, (en_api_Arg.cs v18_r))], 2, Ext.emp⟩⟩) (fun k => match k with | 0 => (⟨[(0, [.i (.int .u8 e.Mapping.Proto), .i (.int .u16 e.Mapping.Ext), .i (.int .u16 e.Mapping.To), .i (.int .u32 e.Mapping.Remote), .i (.int .u32 e.Mapping.Host), .i (.bool e.Enabled), .i (.str e.Words), .i (.int .u64 e.Ends)])], 1, Ext.emp⟩ : Hs) | _ => (⟨[(1, (en_api_Arg.cs v18_r)), (0, [.i (.int .u8 e.Mapping.Proto), .i (.int .u16 e.Mapping.Ext), .i (.int .u16 e.Mapping.To), .i (.int .u32 e.Mapping.Remote), .i (.int .u32 e.Mapping.Host), .i (.bool e.Enabled), .i (.str e.Words), .i (.int .u64 e.Ends)])], 2, Ext.emp⟩ : Hs)) 1 rfl rfl (.pure (fun s => op_fieldAddr_p F102_0 rfl) rfl rfl (.pure (fun s => op_fieldAddr_p F100_3 rfl) rfl rfl (.heapS 0 ⟨op_load_p L23 rfl rfl rfl, op_load_p L23 rfl rfl rfl, trivial⟩ rfl rfl (.pure (fun s => op_call Tryz.func70 rfl rfl rfl (f70_c h_v14_r _)) rfl rfl (.pure (fun s => op_fieldAddr_p F102_0 rfl) rfl rfl (.pure (fun s => op_fieldAddr_p F100_1 rfl) rfl rfl (.heapS 0 ⟨op_load_p L96 rfl rfl rfl, op_load_p L96 rfl rfl rfl, trivial⟩ rfl rfl (.pure (fun s => op_conv_int U96 U40 rfl h_v15_t10) rfl rfl (.pure (fun s => op_call Tryz.func71 rfl rfl rfl (f71_c h_v16_r _)) rfl rfl (.pure (fun s => op_fieldAddr_p F102_0 rfl) rfl rfl (.pure (fun s => op_fieldAddr_p F100_0 rfl) rfl rfl (.heapS 0 ⟨op_load_p L5 rfl rfl rfl, op_load_p L5 rfl rfl rfl, trivial⟩ rfl rfl (.pure (fun s => op_call Tryz.func188 rfl rfl rfl (f188_c h_v17_r _)) rfl rfl (.pure (fun s => op_buildSliceV (es := [s_NewRemoteHost, v14_r, s_NewExternalPort, v16_r, s_NewProtocol, v17_r].flatMap en_str.f) U26 SZ9 Z9 rfl rfl rfl rfl rfl) rfl rfl (.wr (LOp.is (op_call Tryz.func69 rfl rfl rfl (CallOK.is (w := .sl 1 0 v18_r.length 2) (s2 := ⟨[(1, (en_api_Arg.cs v18_r)), (0, [.i (.int .u8 e.Mapping.Proto), .i (.int .u16 e.Mapping.Ext), .i (.int .u16 e.Mapping.To), .i (.int .u32 e.Mapping.Remote), .i (.int .u32 e.Mapping.Host), .i (.bool e.Enabled), .i (.str e.Words), .i (.int .u64 e.Ends)])], 2, Ext.emp⟩) (CallOK.by [] (f69_1_c h_v18_r) rfl (.cons (.i _) (.nil _ _)) (.nil) (.sl _ _ _ _ (Nat.le_of_ble_eq_true rfl)) (.cons (Nat.le_of_ble_eq_true rfl) (.mapIeq rfl) (.nil))) rfl rfl)) rfl rfl) rfl rfl (.pure (fun s => op_assign rfl) rfl rfl (.nil _ _))))))))))))))))) (by kernel_rfl) ?_ ?_
  · exact Gh.by [] rfl (.cons rfl (.slB rfl rfl) (.nil)) (.cons rfl rfl (.mapIeq rfl) (.nil))
  refine AWp.ret ?_
  exact FnQ.retE [0] (st' := ⟨[(2, .sl 0 0 v18_r.length 2)], ⟨[(0, (en_api_Arg.cs v18_r))], 1, Ext.emp⟩⟩) (Gh.by [1] rfl (.cons rfl (.slB rfl rfl) (.nil)) (.cons rfl rfl (.mapIeq rfl) (.nil))) (RetV.r1 rfl (.tmp rfl)) (congrArg (fun (out : (List T_api_Arg)) => (.sl 0 0 out.length 2 : V)) (Option.some.inj h)) (congrArg (fun (out : (List T_api_Arg)) => (⟨[(0, (en_api_Arg.cs out))], 1, Ext.emp⟩ : Hs)) (Option.some.inj h))

/- hearth/value.Yes -/
def f189 (fu : Nat) (b : Bool) : Option (Str) :=
  bif b then
    some s_1
  else
    some s_0
set_option maxRecDepth 100000 in
set_option maxHeartbeats 4000000 in
theorem f189_c {fu : Nat} {b : Bool} {out : Str} (h : f189 fu b = some out) : Pure Tryz.prog GG 189 [.i (.bool b)] (.i (.str out)) := by
  refine Pure.of (NoIds.cons (NoId.i _) NoIds.nil) (NoId.i _) (ACall.of_body Tryz.func189 rfl (by kernel_rfl) ?_)
  unfold f189 at h
  refine AWp.seq ?_
  refine AWp.region ?_
  refine AOps.go (op_assign rfl) rfl rfl rfl ?_
  refine AOps.nil ?_
  refine AWp.seq ?_
  refine AWp.seq ?_
  refine AWp.region ?_
  refine AOps.go (op_move rfl) rfl rfl rfl ?_
  refine AOps.nil ?_
  refine AWp.cond rfl (fun hc2 => ?_) (fun hc2 => ?_)
  · replace h := bif_t hc2 h
    refine AWp.seq ?_
    refine AWp.region ?_
    refine AOps.go (op_assign rfl) rfl rfl rfl ?_
    refine AOps.nil ?_
    refine AWp.ret ?_
    exact FnQ.retP (Gh.refl _) (RetV.r1 rfl (.tmp rfl)) (congrArg (fun (out : Str) => (.i (.str out) : V)) (Option.some.inj h))
  · replace h := bif_f hc2 h
    refine AWp.skip ?_
    refine AWp.seq ?_
    refine AWp.region ?_
    refine AOps.go (op_assign rfl) rfl rfl rfl ?_
    refine AOps.nil ?_
    refine AWp.ret ?_
    exact FnQ.retP (Gh.refl _) (RetV.r1 rfl (.tmp rfl)) (congrArg (fun (out : Str) => (.i (.str out) : V)) (Option.some.inj h))

/- hearth/igd.left -/
def f190 (fu : Nat) (e : T_api_Entry) (now : Int) : Option (Str) :=
  bif (decide (e.Ends < now)) then
    some s_0
  else
    lt (IntKind.wrap .u64 (e.Ends - now)) fun v3_t12 =>
    (f71 fu v3_t12).bind fun v4_r =>
    some v4_r
set_option maxRecDepth 100000 in
set_option maxHeartbeats 4000000 in
theorem f190_c {fu : Nat} {e : T_api_Entry} {now : Int} {out : Str} (h : f190 fu e now = some out) : Pure Tryz.prog GG 190 [.agg [.i (.int .u8 e.Mapping.Proto), .i (.int .u16 e.Mapping.Ext), .i (.int .u16 e.Mapping.To), .i (.int .u32 e.Mapping.Remote), .i (.int .u32 e.Mapping.Host), .i (.bool e.Enabled), .i (.str e.Words), .i (.int .u64 e.Ends)], .i (.int .u64 now)] (.i (.str out)) := by
  refine Pure.of (NoIds.cons (NoId.aggI rfl) (NoIds.cons (NoId.i _) NoIds.nil)) (NoId.i _) (ACall.of_body Tryz.func190 rfl (by kernel_rfl) ?_)
  unfold f190 at h
  refine AWp.seq ?_
  refine AWp.region ?_
  refine AOps.go (op_box rfl rfl) rfl rfl rfl ?_
  refine AOps.go (op_assign rfl) rfl rfl rfl ?_
  refine AOps.nil ?_
  refine AWp.seq ?_
  refine AWp.seq ?_
  refine AWp.region ?_
  refine AOps.go (op_fieldAddr_p F102_3 rfl) rfl rfl rfl ?_
  refine AOps.go (op_load_p L40 rfl rfl rfl) rfl rfl rfl ?_
  refine AOps.go (op_move rfl) rfl rfl rfl ?_
  refine AOps.go (op_cmp rfl rfl rfl) rfl rfl rfl ?_
  refine AOps.fin (st' := ⟨[(1, .i (.int .u64 now)), (2, .p 0 0), (8, .i (.bool (decide (e.Ends < now))))], ⟨[(0, [.i (.int .u8 e.Mapping.Proto), .i (.int .u16 e.Mapping.Ext), .i (.int .u16 e.Mapping.To), .i (.int .u32 e.Mapping.Remote), .i (.int .u32 e.Mapping.Host), .i (.bool e.Enabled), .i (.str e.Words), .i (.int .u64 e.Ends)])], 1, Ext.emp⟩⟩) (Gh.by [] rfl (.cons rfl (.i _) (.cons rfl (.pB rfl) (.cons rfl (.i _) (.nil)))) (.cons rfl rfl (.ofI rfl) (.nil))) ?_
  refine AWp.cond rfl (fun hc2 => ?_) (fun hc2 => ?_)
  · replace h := bif_t hc2 h
    refine AWp.seq ?_
    refine AWp.region ?_
    refine AOps.go (op_assign rfl) rfl rfl rfl ?_
    refine AOps.nil ?_
    refine AWp.ret ?_
    exact FnQ.retP (Gh.refl _) (RetV.r1 rfl (.tmp rfl)) (congrArg (fun (out : Str) => (.i (.str out) : V)) (Option.some.inj h))
  · replace h := bif_f hc2 h
    refine AWp.skip ?_
    refine AWp.seq ?_
    refine AWp.region ?_
    refine AOps.go (op_fieldAddr_p F102_3 rfl) rfl rfl rfl ?_
    refine AOps.go (op_load_p L40 rfl rfl rfl) rfl rfl rfl ?_
    refine AOps.go (op_move rfl) rfl rfl rfl ?_
    obtain ⟨v3_t12, h_v3_t12, h⟩ := lt_some h
    refine AOps.go (op_arith rfl rfl (congrArg some h_v3_t12)) rfl rfl rfl ?_
    obtain ⟨v4_r, h_v4_r, h⟩ := bind_some h
    refine AOps.go (op_call Tryz.func71 rfl rfl rfl (f71_c h_v4_r _)) rfl rfl rfl ?_
    refine AOps.go (op_assign rfl) rfl rfl rfl ?_
    refine AOps.fin (st' := ⟨[(4, .i (.str v4_r))], ⟨[], 1, Ext.emp⟩⟩) (Gh.by [] rfl (.cons rfl (.i _) (.nil)) (.nil)) ?_
    refine AWp.ret ?_
    exact FnQ.retP (Gh.refl _) (RetV.r1 rfl (.tmp rfl)) (congrArg (fun (out : Str) => (.i (.str out) : V)) (Option.some.inj h))

/- hearth/igd.what -/
def f140 (fu : Nat) (e : T_api_Entry) (now : Int) : Option ((List T_api_Arg)) :=
  lt (IntKind.wrap .u64 e.Mapping.To) fun v17_t8 =>
  (f71 fu v17_t8).bind fun v18_r =>
  (f70 fu e.Mapping.Host).bind fun v19_r =>
  (f189 fu e.Enabled).bind fun v20_r =>
  (f190 fu e now).bind fun v21_r =>
  (f69 fu [s_NewInternalPort, v18_r, s_NewInternalClient, v19_r, s_NewEnabled, v20_r, s_NewPortMappingDescriptio, e.Words, s_NewLeaseDuration, v21_r]).bind fun v22_r =>
  some v22_r
set_option maxRecDepth 100000 in
set_option maxHeartbeats 4000000 in
theorem f140_c {fu : Nat} {e : T_api_Entry} {now : Int} {out : (List T_api_Arg)} (h : f140 fu e now = some out) : Pure Tryz.prog GG 140 [.agg [.i (.int .u8 e.Mapping.Proto), .i (.int .u16 e.Mapping.Ext), .i (.int .u16 e.Mapping.To), .i (.int .u32 e.Mapping.Remote), .i (.int .u32 e.Mapping.Host), .i (.bool e.Enabled), .i (.str e.Words), .i (.int .u64 e.Ends)], .i (.int .u64 now)] ((en_api_Arg.vec out)) := by
  refine Pure.of (NoIds.cons (NoId.aggI rfl) (NoIds.cons (NoId.i _) NoIds.nil)) (NoId.i _) (ACall.of_body Tryz.func140 rfl (by kernel_rfl) ?_)
  unfold f140 at h
  refine AWp.seq ?_
  refine AWp.region ?_
  refine AOps.go (op_box rfl rfl) rfl rfl rfl ?_
  refine AOps.go (op_assign rfl) rfl rfl rfl ?_
  refine AOps.nil ?_
  refine AWp.seq ?_
  obtain ⟨v17_t8, h_v17_t8, h⟩ := lt_some h
  obtain ⟨v18_r, h_v18_r, h⟩ := bind_some h
  obtain ⟨v19_r, h_v19_r, h⟩ := bind_some h
  obtain ⟨v20_r, h_v20_r, h⟩ := bind_some h
  obtain ⟨v21_r, h_v21_r, h⟩ := bind_some h
  obtain ⟨v22_r, h_v22_r, h⟩ := bind_some h
  refine AWp.drawnG (st' := ⟨[(4, (en_api_Arg.vec v22_r))], ⟨[], 1, Ext.emp⟩⟩) (fun _ => (⟨[(0, [.i (.int .u8 e.Mapping.Proto), .i (.int .u16 e.Mapping.Ext), .i (.int .u16 e.Mapping.To), .i (.int .u32 e.Mapping.Remote), .i (.int .u32 e.Mapping.Host), .i (.bool e.Enabled), .i (.str e.Words), .i (.int .u64 e.Ends)])], 1, Ext.emp⟩ : Hs)) 0 rfl rfl (.pure (fun s => op_fieldAddr_p F102_0 rfl) rfl rfl (.pure (fun s => op_fieldAddr_p F100_2 rfl) rfl rfl (.heapS 0 ⟨op_load_p L96 rfl rfl rfl, trivial⟩ rfl rfl (.pure (fun s => op_conv_int U96 U40 rfl h_v17_t8) rfl rfl (.pure (fun s => op_call Tryz.func71 rfl rfl rfl (f71_c h_v18_r _)) rfl rfl (.pure (fun s => op_fieldAddr_p F102_0 rfl) rfl rfl (.pure (fun s => op_fieldAddr_p F100_4 rfl) rfl rfl (.heapS 0 ⟨op_load_p L23 rfl rfl rfl, trivial⟩ rfl rfl (.pure (fun s => op_call Tryz.func70 rfl rfl rfl (f70_c h_v19_r _)) rfl rfl (.pure (fun s => op_fieldAddr_p F102_1 rfl) rfl rfl (.heapS 0 ⟨op_load_p L4 rfl rfl rfl, trivial⟩ rfl rfl (.pure (fun s => op_call Tryz.func189 rfl rfl rfl (f189_c h_v20_r _)) rfl rfl (.pure (fun s => op_fieldAddr_p F102_2 rfl) rfl rfl (.heapS 0 ⟨op_load_p L9 rfl rfl rfl, trivial⟩ rfl rfl (.heapS 0 ⟨op_load_agg_p A102 rfl rfl (Nat.le_of_ble_eq_true rfl) rfl, trivial⟩ rfl rfl (.pure (fun s => op_move rfl) rfl rfl (.pure (fun s => op_call Tryz.func190 rfl rfl rfl (f190_c h_v21_r _)) rfl rfl (.pure (fun s => op_buildSliceV (es := [s_NewInternalPort, v18_r, s_NewInternalClient, v19_r, s_NewEnabled, v20_r, s_NewPortMappingDescriptio, e.Words, s_NewLeaseDuration, v21_r].flatMap en_str.f) U26 SZ9 Z9 rfl rfl rfl rfl rfl) rfl rfl (.pure (fun s => op_call Tryz.func69 rfl rfl rfl (f69_c h_v22_r _)) rfl rfl (.pure (fun s => op_assign rfl) rfl rfl (.nil _ _))))))))))))))))))))) (by kernel_rfl) ?_ ?_
  · exact Gh.by [] rfl (.cons rfl (.i _) (.nil)) (.nil)
  refine AWp.ret ?_
  exact FnQ.retP (Gh.refl _) (RetV.r1 rfl (.tmp rfl)) (congrArg (fun (out : (List T_api_Arg)) => ((en_api_Arg.vec out) : V)) (Option.some.inj h))

end Go.Ab
