/-
  Types, constants and facts of the program, for the walks behind it (printed).
-/
import Derived.Test.YtnfdggpfidngkaaGreatDoorAbEq2
import Derived.Test.YtnfdggpfidngkaaGreatDoorProg
namespace Go.Ab
open Go.Proofs

def GG : Glob := fun _ => none

def s_00000000_1111_2222_3333 : Str := [48, 48, 48, 48, 48, 48, 48, 48, 45, 49, 49, 49, 49, 45, 50, 50, 50, 50, 45, 51, 51, 51, 51, 45, 52, 52, 52, 52, 52, 52, 52, 52, 52, 52, 52, 52]
def s_urn_schemas_upnp_org_ser : Str := [117, 114, 110, 58, 115, 99, 104, 101, 109, 97, 115, 45, 117, 112, 110, 112, 45, 111, 114, 103, 58, 115, 101, 114, 118, 105, 99, 101, 58, 87, 65, 78, 73, 80, 67, 111, 110, 110, 101, 99, 116, 105, 111, 110, 58, 50]
def s_GetNATRSIPStatus : Str := [71, 101, 116, 78, 65, 84, 82, 83, 73, 80, 83, 116, 97, 116, 117, 115]
def s_NewConnectionType : Str := [78, 101, 119, 67, 111, 110, 110, 101, 99, 116, 105, 111, 110, 84, 121, 112, 101]
def s_SetConnectionType : Str := [83, 101, 116, 67, 111, 110, 110, 101, 99, 116, 105, 111, 110, 84, 121, 112, 101]
def s_GetConnectionTypeInfo : Str := [71, 101, 116, 67, 111, 110, 110, 101, 99, 116, 105, 111, 110, 84, 121, 112, 101, 73, 110, 102, 111]
def s_RequestConnection : Str := [82, 101, 113, 117, 101, 115, 116, 67, 111, 110, 110, 101, 99, 116, 105, 111, 110]
def s_RequestTermination : Str := [82, 101, 113, 117, 101, 115, 116, 84, 101, 114, 109, 105, 110, 97, 116, 105, 111, 110]
def s_ForceTermination : Str := [70, 111, 114, 99, 101, 84, 101, 114, 109, 105, 110, 97, 116, 105, 111, 110]
def s_GetStatusInfo : Str := [71, 101, 116, 83, 116, 97, 116, 117, 115, 73, 110, 102, 111]
def s_GetExternalIPAddress : Str := [71, 101, 116, 69, 120, 116, 101, 114, 110, 97, 108, 73, 80, 65, 100, 100, 114, 101, 115, 115]
def s_NewPortMappingIndex : Str := [78, 101, 119, 80, 111, 114, 116, 77, 97, 112, 112, 105, 110, 103, 73, 110, 100, 101, 120]
def s_GetGenericPortMappingEnt : Str := [71, 101, 116, 71, 101, 110, 101, 114, 105, 99, 80, 111, 114, 116, 77, 97, 112, 112, 105, 110, 103, 69, 110, 116, 114, 121]
def s_NewRemoteHost : Str := [78, 101, 119, 82, 101, 109, 111, 116, 101, 72, 111, 115, 116]
def s_NewExternalPort : Str := [78, 101, 119, 69, 120, 116, 101, 114, 110, 97, 108, 80, 111, 114, 116]
def s_NewProtocol : Str := [78, 101, 119, 80, 114, 111, 116, 111, 99, 111, 108]
def s_GetSpecificPortMappingEn : Str := [71, 101, 116, 83, 112, 101, 99, 105, 102, 105, 99, 80, 111, 114, 116, 77, 97, 112, 112, 105, 110, 103, 69, 110, 116, 114, 121]
def s_NewInternalPort : Str := [78, 101, 119, 73, 110, 116, 101, 114, 110, 97, 108, 80, 111, 114, 116]
def s_NewInternalClient : Str := [78, 101, 119, 73, 110, 116, 101, 114, 110, 97, 108, 67, 108, 105, 101, 110, 116]
def s_NewEnabled : Str := [78, 101, 119, 69, 110, 97, 98, 108, 101, 100]
def s_NewPortMappingDescriptio : Str := [78, 101, 119, 80, 111, 114, 116, 77, 97, 112, 112, 105, 110, 103, 68, 101, 115, 99, 114, 105, 112, 116, 105, 111, 110]
def s_NewLeaseDuration : Str := [78, 101, 119, 76, 101, 97, 115, 101, 68, 117, 114, 97, 116, 105, 111, 110]
def s_AddPortMapping : Str := [65, 100, 100, 80, 111, 114, 116, 77, 97, 112, 112, 105, 110, 103]
def s_AddAnyPortMapping : Str := [65, 100, 100, 65, 110, 121, 80, 111, 114, 116, 77, 97, 112, 112, 105, 110, 103]
def s_DeletePortMapping : Str := [68, 101, 108, 101, 116, 101, 80, 111, 114, 116, 77, 97, 112, 112, 105, 110, 103]
def s_NewStartPort : Str := [78, 101, 119, 83, 116, 97, 114, 116, 80, 111, 114, 116]
def s_NewEndPort : Str := [78, 101, 119, 69, 110, 100, 80, 111, 114, 116]
def s_NewManage : Str := [78, 101, 119, 77, 97, 110, 97, 103, 101]
def s_DeletePortMappingRange : Str := [68, 101, 108, 101, 116, 101, 80, 111, 114, 116, 77, 97, 112, 112, 105, 110, 103, 82, 97, 110, 103, 101]
def s_NewNumberOfPorts : Str := [78, 101, 119, 78, 117, 109, 98, 101, 114, 79, 102, 80, 111, 114, 116, 115]
def s_GetListOfPortMappings : Str := [71, 101, 116, 76, 105, 115, 116, 79, 102, 80, 111, 114, 116, 77, 97, 112, 112, 105, 110, 103, 115]
def s_ : Str := [46]
def s_TCP : Str := [84, 67, 80]
def s_UDP : Str := [85, 68, 80]
def s_1 : Str := [49]
def s_true : Str := [116, 114, 117, 101]
def s_yes : Str := [121, 101, 115]
def s_0 : Str := [48]
def s_false : Str := [102, 97, 108, 115, 101]
def s_no : Str := [110, 111]
def s_IP_Routed : Str := [73, 80, 95, 82, 111, 117, 116, 101, 100]
def s_NewPossibleConnectionTyp : Str := [78, 101, 119, 80, 111, 115, 115, 105, 98, 108, 101, 67, 111, 110, 110, 101, 99, 116, 105, 111, 110, 84, 121, 112, 101, 115]
def s_0123456789abcdefghijklmn : Str := [48, 49, 50, 51, 52, 53, 54, 55, 56, 57, 97, 98, 99, 100, 101, 102, 103, 104, 105, 106, 107, 108, 109, 110, 111, 112, 113, 114, 115, 116, 117, 118, 119, 120, 121, 122]
def s_000102030405060708091011 : Str := [48, 48, 48, 49, 48, 50, 48, 51, 48, 52, 48, 53, 48, 54, 48, 55, 48, 56, 48, 57, 49, 48, 49, 49, 49, 50, 49, 51, 49, 52, 49, 53, 49, 54, 49, 55, 49, 56, 49, 57, 50, 48, 50, 49, 50, 50, 50, 51, 50, 52, 50, 53, 50, 54, 50, 55, 50, 56, 50, 57, 51, 48, 51, 49, 51, 50, 51, 51, 51, 52, 51, 53, 51, 54, 51, 55, 51, 56, 51, 57, 52, 48, 52, 49, 52, 50, 52, 51, 52, 52, 52, 53, 52, 54, 52, 55, 52, 56, 52, 57, 53, 48, 53, 49, 53, 50, 53, 51, 53, 52, 53, 53, 53, 54, 53, 55, 53, 56, 53, 57, 54, 48, 54, 49, 54, 50, 54, 51, 54, 52, 54, 53, 54, 54, 54, 55, 54, 56, 54, 57, 55, 48, 55, 49, 55, 50, 55, 51, 55, 52, 55, 53, 55, 54, 55, 55, 55, 56, 55, 57, 56, 48, 56, 49, 56, 50, 56, 51, 56, 52, 56, 53, 56, 54, 56, 55, 56, 56, 56, 57, 57, 48, 57, 49, 57, 50, 57, 51, 57, 52, 57, 53, 57, 54, 57, 55, 57, 56, 57, 57]
def s_x : Str := [0, 1, 2, 2, 3, 3, 3, 3, 4, 4, 4, 4, 4, 4, 4, 4, 5, 5, 5, 5, 5, 5, 5, 5, 5, 5, 5, 5, 5, 5, 5, 5, 6, 6, 6, 6, 6, 6, 6, 6, 6, 6, 6, 6, 6, 6, 6, 6, 6, 6, 6, 6, 6, 6, 6, 6, 6, 6, 6, 6, 6, 6, 6, 6, 7, 7, 7, 7, 7, 7, 7, 7, 7, 7, 7, 7, 7, 7, 7, 7, 7, 7, 7, 7, 7, 7, 7, 7, 7, 7, 7, 7, 7, 7, 7, 7, 7, 7, 7, 7, 7, 7, 7, 7, 7, 7, 7, 7, 7, 7, 7, 7, 7, 7, 7, 7, 7, 7, 7, 7, 7, 7, 7, 7, 7, 7, 7, 7, 8, 8, 8, 8, 8, 8, 8, 8, 8, 8, 8, 8, 8, 8, 8, 8, 8, 8, 8, 8, 8, 8, 8, 8, 8, 8, 8, 8, 8, 8, 8, 8, 8, 8, 8, 8, 8, 8, 8, 8, 8, 8, 8, 8, 8, 8, 8, 8, 8, 8, 8, 8, 8, 8, 8, 8, 8, 8, 8, 8, 8, 8, 8, 8, 8, 8, 8, 8, 8, 8, 8, 8, 8, 8, 8, 8, 8, 8, 8, 8, 8, 8, 8, 8, 8, 8, 8, 8, 8, 8, 8, 8, 8, 8, 8, 8, 8, 8, 8, 8, 8, 8, 8, 8, 8, 8, 8, 8, 8, 8, 8, 8, 8, 8, 8, 8, 8, 8, 8, 8, 8, 8, 8, 8, 8, 8, 8, 8]
def s_NewConnectionStatus : Str := [78, 101, 119, 67, 111, 110, 110, 101, 99, 116, 105, 111, 110, 83, 116, 97, 116, 117, 115]
def s_Connected : Str := [67, 111, 110, 110, 101, 99, 116, 101, 100]
def s_NewLastConnectionError : Str := [78, 101, 119, 76, 97, 115, 116, 67, 111, 110, 110, 101, 99, 116, 105, 111, 110, 69, 114, 114, 111, 114]
def s_ERROR_NONE : Str := [69, 82, 82, 79, 82, 95, 78, 79, 78, 69]
def s_NewUptime : Str := [78, 101, 119, 85, 112, 116, 105, 109, 101]
def s_NewRSIPAvailable : Str := [78, 101, 119, 82, 83, 73, 80, 65, 118, 97, 105, 108, 97, 98, 108, 101]
def s_NewNATEnabled : Str := [78, 101, 119, 78, 65, 84, 69, 110, 97, 98, 108, 101, 100]
def s_NewExternalIPAddress : Str := [78, 101, 119, 69, 120, 116, 101, 114, 110, 97, 108, 73, 80, 65, 100, 100, 114, 101, 115, 115]
def s_NewReservedPort : Str := [78, 101, 119, 82, 101, 115, 101, 114, 118, 101, 100, 80, 111, 114, 116]
def s_Response : Str := [82, 101, 115, 112, 111, 110, 115, 101]
def s_GetNATRSIPStatusResponse : Str := [71, 101, 116, 78, 65, 84, 82, 83, 73, 80, 83, 116, 97, 116, 117, 115, 82, 101, 115, 112, 111, 110, 115, 101]
def s_Invalid_Action : Str := [73, 110, 118, 97, 108, 105, 100, 32, 65, 99, 116, 105, 111, 110]
def s_Invalid_Args : Str := [73, 110, 118, 97, 108, 105, 100, 32, 65, 114, 103, 115]
def s_Action_Failed : Str := [65, 99, 116, 105, 111, 110, 32, 70, 97, 105, 108, 101, 100]
def s_Action_not_authorized : Str := [65, 99, 116, 105, 111, 110, 32, 110, 111, 116, 32, 97, 117, 116, 104, 111, 114, 105, 122, 101, 100]
def s_SpecifiedArrayIndexInval : Str := [83, 112, 101, 99, 105, 102, 105, 101, 100, 65, 114, 114, 97, 121, 73, 110, 100, 101, 120, 73, 110, 118, 97, 108, 105, 100]
def s_NoSuchEntryInArray : Str := [78, 111, 83, 117, 99, 104, 69, 110, 116, 114, 121, 73, 110, 65, 114, 114, 97, 121]
def s_WildCardNotPermittedInEx : Str := [87, 105, 108, 100, 67, 97, 114, 100, 78, 111, 116, 80, 101, 114, 109, 105, 116, 116, 101, 100, 73, 110, 69, 120, 116, 80, 111, 114, 116]
def s_ConflictInMappingEntry : Str := [67, 111, 110, 102, 108, 105, 99, 116, 73, 110, 77, 97, 112, 112, 105, 110, 103, 69, 110, 116, 114, 121]
def s_NoPortMapsAvailable : Str := [78, 111, 80, 111, 114, 116, 77, 97, 112, 115, 65, 118, 97, 105, 108, 97, 98, 108, 101]
def s_ConflictWithOtherMechani : Str := [67, 111, 110, 102, 108, 105, 99, 116, 87, 105, 116, 104, 79, 116, 104, 101, 114, 77, 101, 99, 104, 97, 110, 105, 115, 109, 115]
def s_PortMappingNotFound : Str := [80, 111, 114, 116, 77, 97, 112, 112, 105, 110, 103, 78, 111, 116, 70, 111, 117, 110, 100]
def s_WildCardNotPermittedInIn : Str := [87, 105, 108, 100, 67, 97, 114, 100, 78, 111, 116, 80, 101, 114, 109, 105, 116, 116, 101, 100, 73, 110, 73, 110, 116, 80, 111, 114, 116]
def s_InconsistentParameters : Str := [73, 110, 99, 111, 110, 115, 105, 115, 116, 101, 110, 116, 80, 97, 114, 97, 109, 101, 116, 101, 114, 115]
def s_Error : Str := [69, 114, 114, 111, 114]
def en_i64 : En Int := ⟨fun x => [.int .i64 x], 1, fun _ => rfl, fun _ => rfl⟩
def en_u8 : En Int := ⟨fun x => [.int .u8 x], 1, fun _ => rfl, fun _ => rfl⟩
structure T_api_MAC where
  x_e0 : Int
  x_e1 : Int
  x_e2 : Int
  x_e3 : Int
  x_e4 : Int
  x_e5 : Int
  deriving DecidableEq
def en_api_MAC : En T_api_MAC := ⟨fun x => [.int .u8 x.x_e0, .int .u8 x.x_e1, .int .u8 x.x_e2, .int .u8 x.x_e3, .int .u8 x.x_e4, .int .u8 x.x_e5], 6, fun _ => rfl, fun _ => rfl⟩
def en_u32 : En Int := ⟨fun x => [.int .u32 x], 1, fun _ => rfl, fun _ => rfl⟩
def en_u16 : En Int := ⟨fun x => [.int .u16 x], 1, fun _ => rfl, fun _ => rfl⟩
structure T_api_Forward where
  Proto : Int
  Port : Int
  To : Int
  Host : Int
  deriving DecidableEq
def en_api_Forward : En T_api_Forward := ⟨fun x => [.int .u8 x.Proto, .int .u16 x.Port, .int .u16 x.To, .int .u32 x.Host], 4, fun _ => rfl, fun _ => rfl⟩
def en_sl_api_Forward : En (List T_api_Forward) := ⟨fun x => [.vec (x.flatMap en_api_Forward.f) x.length en_api_Forward.k], 1, fun _ => rfl, fun _ => rfl⟩
def en_str : En Str := ⟨fun x => [.str x], 1, fun _ => rfl, fun _ => rfl⟩
structure T_api_Config where
  LanMAC : T_api_MAC
  WanMAC : T_api_MAC
  HopMAC : T_api_MAC
  LanAddr : Int
  WanAddr : Int
  LanBits : Int
  MaxSessions : Int
  MaxMaps : Int
  MaxConns : Int
  MaxSubs : Int
  Forwards : (List T_api_Forward)
  DMZ : Int
  UUID : Str
  deriving DecidableEq
def en_api_Config : En T_api_Config := ⟨fun x => [.int .u8 x.LanMAC.x_e0, .int .u8 x.LanMAC.x_e1, .int .u8 x.LanMAC.x_e2, .int .u8 x.LanMAC.x_e3, .int .u8 x.LanMAC.x_e4, .int .u8 x.LanMAC.x_e5, .int .u8 x.WanMAC.x_e0, .int .u8 x.WanMAC.x_e1, .int .u8 x.WanMAC.x_e2, .int .u8 x.WanMAC.x_e3, .int .u8 x.WanMAC.x_e4, .int .u8 x.WanMAC.x_e5, .int .u8 x.HopMAC.x_e0, .int .u8 x.HopMAC.x_e1, .int .u8 x.HopMAC.x_e2, .int .u8 x.HopMAC.x_e3, .int .u8 x.HopMAC.x_e4, .int .u8 x.HopMAC.x_e5, .int .u32 x.LanAddr, .int .u32 x.WanAddr, .int .i64 x.LanBits, .int .i64 x.MaxSessions, .int .i64 x.MaxMaps, .int .i64 x.MaxConns, .int .i64 x.MaxSubs, .vec (x.Forwards.flatMap en_api_Forward.f) x.Forwards.length en_api_Forward.k, .int .u32 x.DMZ, .str x.UUID], 28, fun _ => rfl, fun _ => rfl⟩
structure T_maps_key where
  x_proto : Int
  x_ext : Int
  x_remote : Int
  deriving DecidableEq
def en_maps_key : En T_maps_key := ⟨fun x => [.int .u8 x.x_proto, .int .u16 x.x_ext, .int .u32 x.x_remote], 3, fun _ => rfl, fun _ => rfl⟩
structure T_api_Mapping where
  Proto : Int
  Ext : Int
  To : Int
  Remote : Int
  Host : Int
  deriving DecidableEq
def en_api_Mapping : En T_api_Mapping := ⟨fun x => [.int .u8 x.Proto, .int .u16 x.Ext, .int .u16 x.To, .int .u32 x.Remote, .int .u32 x.Host], 5, fun _ => rfl, fun _ => rfl⟩
def en_bool : En Bool := ⟨fun x => [.bool x], 1, fun _ => rfl, fun _ => rfl⟩
def en_u64 : En Int := ⟨fun x => [.int .u64 x], 1, fun _ => rfl, fun _ => rfl⟩
structure T_api_Entry where
  Mapping : T_api_Mapping
  Enabled : Bool
  Words : Str
  Ends : Int
  deriving DecidableEq
def en_api_Entry : En T_api_Entry := ⟨fun x => [.int .u8 x.Mapping.Proto, .int .u16 x.Mapping.Ext, .int .u16 x.Mapping.To, .int .u32 x.Mapping.Remote, .int .u32 x.Mapping.Host, .bool x.Enabled, .str x.Words, .int .u64 x.Ends], 8, fun _ => rfl, fun _ => rfl⟩
structure T_keyed_pair_hearth_maps_key_hearth_api_Entry where
  x_key : T_maps_key
  x_value : T_api_Entry
  deriving DecidableEq
def en_keyed_pair_hearth_maps_key_hearth_api_Entry : En T_keyed_pair_hearth_maps_key_hearth_api_Entry := ⟨fun x => [.int .u8 x.x_key.x_proto, .int .u16 x.x_key.x_ext, .int .u32 x.x_key.x_remote, .int .u8 x.x_value.Mapping.Proto, .int .u16 x.x_value.Mapping.Ext, .int .u16 x.x_value.Mapping.To, .int .u32 x.x_value.Mapping.Remote, .int .u32 x.x_value.Mapping.Host, .bool x.x_value.Enabled, .str x.x_value.Words, .int .u64 x.x_value.Ends], 11, fun _ => rfl, fun _ => rfl⟩
def en_sl_keyed_pair_hearth_maps_key_hearth_api_Entry : En (List T_keyed_pair_hearth_maps_key_hearth_api_Entry) := ⟨fun x => [.vec (x.flatMap en_keyed_pair_hearth_maps_key_hearth_api_Entry.f) x.length en_keyed_pair_hearth_maps_key_hearth_api_Entry.k], 1, fun _ => rfl, fun _ => rfl⟩
structure T_api_Arg where
  Name : Str
  Value : Str
  deriving DecidableEq
def en_api_Arg : En T_api_Arg := ⟨fun x => [.str x.Name, .str x.Value], 2, fun _ => rfl, fun _ => rfl⟩
def en_sl_api_Arg : En (List T_api_Arg) := ⟨fun x => [.vec (x.flatMap en_api_Arg.f) x.length en_api_Arg.k], 1, fun _ => rfl, fun _ => rfl⟩
structure T_api_Call where
  Service : Str
  Action : Str
  Args : (List T_api_Arg)
  deriving DecidableEq
def en_api_Call : En T_api_Call := ⟨fun x => [.str x.Service, .str x.Action, .vec (x.Args.flatMap en_api_Arg.f) x.Args.length en_api_Arg.k], 3, fun _ => rfl, fun _ => rfl⟩
def en_sl_str : En (List Str) := ⟨fun x => [.vec (x.flatMap en_str.f) x.length en_str.k], 1, fun _ => rfl, fun _ => rfl⟩
structure T_igd_action where
  x_name : Str
  x_args : (List Str)
  deriving DecidableEq
def en_igd_action : En T_igd_action := ⟨fun x => [.str x.x_name, .vec (x.x_args.flatMap en_str.f) x.x_args.length en_str.k], 2, fun _ => rfl, fun _ => rfl⟩
def en_sl_igd_action : En (List T_igd_action) := ⟨fun x => [.vec (x.flatMap en_igd_action.f) x.length en_igd_action.k], 1, fun _ => rfl, fun _ => rfl⟩
def en_sl_u8 : En (List Int) := ⟨fun x => [.vec (x.flatMap en_u8.f) x.length en_u8.k], 1, fun _ => rfl, fun _ => rfl⟩

theorem Z36 : ZeroT Tryz.prog 36 [.i (.int .u8 0), .i (.int .u8 0), .i (.int .u8 0), .i (.int .u8 0), .i (.int .u8 0), .i (.int .u8 0), .i (.int .u8 0), .i (.int .u8 0), .i (.int .u8 0), .i (.int .u8 0), .i (.int .u8 0), .i (.int .u8 0), .i (.int .u8 0), .i (.int .u8 0), .i (.int .u8 0), .i (.int .u8 0), .i (.int .u8 0), .i (.int .u8 0), .i (.int .u32 0), .i (.int .u32 0), .i (.int .i64 0), .i (.int .i64 0), .i (.int .i64 0), .i (.int .i64 0), .i (.int .i64 0), .i (.val (.slice none 0 0)), .i (.int .u32 0), .i (.str [])] := ZeroT.of (by kernel_rfl)
theorem AR33 : ArrT Tryz.prog 33 6 1 := ArrT.of (by kernel_rfl)
theorem Z33 : ZeroT Tryz.prog 33 [.i (.int .u8 0), .i (.int .u8 0), .i (.int .u8 0), .i (.int .u8 0), .i (.int .u8 0), .i (.int .u8 0)] := ZeroT.of (by kernel_rfl)
theorem PL36 : PlacesT Tryz.prog 36 [(0, 6), (6, 6), (12, 6), (18, 1), (19, 1), (20, 1), (21, 1), (22, 1), (23, 1), (24, 1), (25, 1), (26, 1), (27, 1)] := PlacesT.of (by kernel_rfl)
theorem SZ36 : SizeT Tryz.prog 36 28 := SizeT.of (by kernel_rfl)
theorem A36 : AggT Tryz.prog 36 28 := AggT.of (by kernel_rfl)
theorem F36_10 : FieldAt Tryz.prog 36 10 25 1 := FieldAt.of (by kernel_rfl)
theorem L34 : Leaf Tryz.prog 34 := Leaf.of (by kernel_rfl)
theorem U34 : Tryz.prog.underlying 34 = some (.slice 127) := by kernel_rfl
theorem SZ127 : SizeT Tryz.prog 127 4 := SizeT.of (by kernel_rfl)
theorem Z127 : ZeroT Tryz.prog 127 [.i (.int .u8 0), .i (.int .u16 0), .i (.int .u16 0), .i (.int .u32 0)] := ZeroT.of (by kernel_rfl)
theorem AP34_34 : AppT Tryz.prog 34 34 4 12 := AppT.of (by kernel_rfl)
theorem SZ34 : SizeT Tryz.prog 34 1 := SizeT.of (by kernel_rfl)
theorem F36_7 : FieldAt Tryz.prog 36 7 22 1 := FieldAt.of (by kernel_rfl)
theorem L3 : Leaf Tryz.prog 3 := Leaf.of (by kernel_rfl)
theorem PL152 : PlacesT Tryz.prog 152 [(0, 1), (1, 1), (2, 1)] := PlacesT.of (by kernel_rfl)
theorem Z152 : ZeroT Tryz.prog 152 [.i (.val (.slice none 0 0)), .i (.int .i64 0), .i (.val (.nilFunc))] := ZeroT.of (by kernel_rfl)
theorem PL105 : PlacesT Tryz.prog 105 [(0, 28), (28, 1), (29, 1)] := PlacesT.of (by kernel_rfl)
theorem Z105 : ZeroT Tryz.prog 105 [.i (.int .u8 0), .i (.int .u8 0), .i (.int .u8 0), .i (.int .u8 0), .i (.int .u8 0), .i (.int .u8 0), .i (.int .u8 0), .i (.int .u8 0), .i (.int .u8 0), .i (.int .u8 0), .i (.int .u8 0), .i (.int .u8 0), .i (.int .u8 0), .i (.int .u8 0), .i (.int .u8 0), .i (.int .u8 0), .i (.int .u8 0), .i (.int .u8 0), .i (.int .u32 0), .i (.int .u32 0), .i (.int .i64 0), .i (.int .i64 0), .i (.int .i64 0), .i (.int .i64 0), .i (.int .i64 0), .i (.val (.slice none 0 0)), .i (.int .u32 0), .i (.str []), .i (.val (.pointer none)), .i (.int .u32 0)] := ZeroT.of (by kernel_rfl)
theorem PL42 : PlacesT Tryz.prog 42 [(0, 1), (1, 28), (29, 1), (30, 1)] := PlacesT.of (by kernel_rfl)
theorem Z42 : ZeroT Tryz.prog 42 [.i (.val (.pointer none)), .i (.int .u8 0), .i (.int .u8 0), .i (.int .u8 0), .i (.int .u8 0), .i (.int .u8 0), .i (.int .u8 0), .i (.int .u8 0), .i (.int .u8 0), .i (.int .u8 0), .i (.int .u8 0), .i (.int .u8 0), .i (.int .u8 0), .i (.int .u8 0), .i (.int .u8 0), .i (.int .u8 0), .i (.int .u8 0), .i (.int .u8 0), .i (.int .u8 0), .i (.int .u32 0), .i (.int .u32 0), .i (.int .i64 0), .i (.int .i64 0), .i (.int .i64 0), .i (.int .i64 0), .i (.int .i64 0), .i (.val (.slice none 0 0)), .i (.int .u32 0), .i (.str []), .i (.int .u32 0), .i (.int .u64 0)] := ZeroT.of (by kernel_rfl)
theorem PL44 : PlacesT Tryz.prog 44 [(0, 1), (1, 1), (2, 1)] := PlacesT.of (by kernel_rfl)
theorem Z44 : ZeroT Tryz.prog 44 [.i (.str []), .i (.str []), .i (.val (.slice none 0 0))] := ZeroT.of (by kernel_rfl)
theorem F44_0 : FieldAt Tryz.prog 44 0 0 1 := FieldAt.of (by kernel_rfl)
theorem L9 : Leaf Tryz.prog 9 := Leaf.of (by kernel_rfl)
theorem SZ44 : SizeT Tryz.prog 44 3 := SizeT.of (by kernel_rfl)
theorem U26 : Tryz.prog.underlying 26 = some (.slice 9) := by kernel_rfl
theorem SZ9 : SizeT Tryz.prog 9 1 := SizeT.of (by kernel_rfl)
theorem Z9 : ZeroT Tryz.prog 9 [.i (.str [])] := ZeroT.of (by kernel_rfl)
theorem PL109 : PlacesT Tryz.prog 109 [(0, 1), (1, 1)] := PlacesT.of (by kernel_rfl)
theorem Z109 : ZeroT Tryz.prog 109 [.i (.str []), .i (.val (.slice none 0 0))] := ZeroT.of (by kernel_rfl)
theorem AP26_26 : AppT Tryz.prog 26 26 1 16 := AppT.of (by kernel_rfl)
theorem U106 : Tryz.prog.underlying 106 = some (.slice 109) := by kernel_rfl
theorem SZ109 : SizeT Tryz.prog 109 2 := SizeT.of (by kernel_rfl)
theorem ST106 : SliceT Tryz.prog 106 2 := SliceT.of (by kernel_rfl)
theorem A109 : AggT Tryz.prog 109 2 := AggT.of (by kernel_rfl)
theorem F109_0 : FieldAt Tryz.prog 109 0 0 1 := FieldAt.of (by kernel_rfl)
theorem F44_1 : FieldAt Tryz.prog 44 1 1 1 := FieldAt.of (by kernel_rfl)
theorem F109_1 : FieldAt Tryz.prog 109 1 1 1 := FieldAt.of (by kernel_rfl)
theorem L26 : Leaf Tryz.prog 26 := Leaf.of (by kernel_rfl)
theorem F44_2 : FieldAt Tryz.prog 44 2 2 1 := FieldAt.of (by kernel_rfl)
theorem L29 : Leaf Tryz.prog 29 := Leaf.of (by kernel_rfl)
theorem U29 : Tryz.prog.underlying 29 = some (.slice 31) := by kernel_rfl
theorem ST26 : SliceT Tryz.prog 26 1 := SliceT.of (by kernel_rfl)
theorem ST29 : SliceT Tryz.prog 29 2 := SliceT.of (by kernel_rfl)
theorem A31 : AggT Tryz.prog 31 2 := AggT.of (by kernel_rfl)
theorem Z31 : ZeroT Tryz.prog 31 [.i (.str []), .i (.str [])] := ZeroT.of (by kernel_rfl)
theorem SZ31 : SizeT Tryz.prog 31 2 := SizeT.of (by kernel_rfl)
theorem F31_0 : FieldAt Tryz.prog 31 0 0 1 := FieldAt.of (by kernel_rfl)
theorem F31_1 : FieldAt Tryz.prog 31 1 1 1 := FieldAt.of (by kernel_rfl)
theorem U9 : Tryz.prog.underlying 9 = some (.string) := by kernel_rfl
theorem U60 : Tryz.prog.underlying 60 = some (.slice 5) := by kernel_rfl
theorem U5 : Tryz.prog.underlying 5 = some (.int .u8) := by kernel_rfl
theorem ST60 : SliceT Tryz.prog 60 1 := SliceT.of (by kernel_rfl)
theorem L5 : Leaf Tryz.prog 5 := Leaf.of (by kernel_rfl)
theorem U40 : Tryz.prog.underlying 40 = some (.int .u64) := by kernel_rfl
theorem U3 : Tryz.prog.underlying 3 = some (.int .i64) := by kernel_rfl
theorem U23 : Tryz.prog.underlying 23 = some (.int .u32) := by kernel_rfl
theorem A44 : AggT Tryz.prog 44 3 := AggT.of (by kernel_rfl)
theorem A42 : AggT Tryz.prog 42 31 := AggT.of (by kernel_rfl)
theorem PL113 : PlacesT Tryz.prog 113 [(0, 3), (3, 31)] := PlacesT.of (by kernel_rfl)
theorem Z113 : ZeroT Tryz.prog 113 [.i (.str []), .i (.str []), .i (.val (.slice none 0 0)), .i (.val (.pointer none)), .i (.int .u8 0), .i (.int .u8 0), .i (.int .u8 0), .i (.int .u8 0), .i (.int .u8 0), .i (.int .u8 0), .i (.int .u8 0), .i (.int .u8 0), .i (.int .u8 0), .i (.int .u8 0), .i (.int .u8 0), .i (.int .u8 0), .i (.int .u8 0), .i (.int .u8 0), .i (.int .u8 0), .i (.int .u8 0), .i (.int .u8 0), .i (.int .u8 0), .i (.int .u32 0), .i (.int .u32 0), .i (.int .i64 0), .i (.int .i64 0), .i (.int .i64 0), .i (.int .i64 0), .i (.int .i64 0), .i (.val (.slice none 0 0)), .i (.int .u32 0), .i (.str []), .i (.int .u32 0), .i (.int .u64 0)] := ZeroT.of (by kernel_rfl)
theorem F113_1 : FieldAt Tryz.prog 113 1 3 31 := FieldAt.of (by kernel_rfl)
theorem SZ42 : SizeT Tryz.prog 42 31 := SizeT.of (by kernel_rfl)
theorem F113_0 : FieldAt Tryz.prog 113 0 0 3 := FieldAt.of (by kernel_rfl)
theorem A113 : AggT Tryz.prog 113 34 := AggT.of (by kernel_rfl)
theorem PL31 : PlacesT Tryz.prog 31 [(0, 1), (1, 1)] := PlacesT.of (by kernel_rfl)
theorem AP29_29 : AppT Tryz.prog 29 29 2 32 := AppT.of (by kernel_rfl)
theorem F42_3 : FieldAt Tryz.prog 42 3 30 1 := FieldAt.of (by kernel_rfl)
theorem L40 : Leaf Tryz.prog 40 := Leaf.of (by kernel_rfl)
theorem Z290 : ZeroT Tryz.prog 290 [.i (.int .u8 0), .i (.int .u8 0), .i (.int .u8 0), .i (.int .u8 0), .i (.int .u8 0), .i (.int .u8 0), .i (.int .u8 0), .i (.int .u8 0), .i (.int .u8 0), .i (.int .u8 0), .i (.int .u8 0), .i (.int .u8 0), .i (.int .u8 0), .i (.int .u8 0), .i (.int .u8 0), .i (.int .u8 0), .i (.int .u8 0), .i (.int .u8 0), .i (.int .u8 0), .i (.int .u8 0), .i (.int .u8 0), .i (.int .u8 0), .i (.int .u8 0), .i (.int .u8 0)] := ZeroT.of (by kernel_rfl)
theorem Z332 : ZeroT Tryz.prog 332 [.i (.int .u8 0), .i (.int .u8 0), .i (.int .u8 0), .i (.int .u8 0), .i (.int .u8 0), .i (.int .u8 0), .i (.int .u8 0), .i (.int .u8 0), .i (.int .u8 0), .i (.int .u8 0), .i (.int .u8 0), .i (.int .u8 0), .i (.int .u8 0), .i (.int .u8 0), .i (.int .u8 0), .i (.int .u8 0), .i (.int .u8 0), .i (.int .u8 0), .i (.int .u8 0), .i (.int .u8 0), .i (.int .u8 0), .i (.int .u8 0), .i (.int .u8 0), .i (.int .u8 0), .i (.int .u8 0), .i (.int .u8 0), .i (.int .u8 0), .i (.int .u8 0), .i (.int .u8 0), .i (.int .u8 0), .i (.int .u8 0), .i (.int .u8 0), .i (.int .u8 0), .i (.int .u8 0), .i (.int .u8 0), .i (.int .u8 0), .i (.int .u8 0), .i (.int .u8 0), .i (.int .u8 0), .i (.int .u8 0), .i (.int .u8 0), .i (.int .u8 0), .i (.int .u8 0), .i (.int .u8 0), .i (.int .u8 0), .i (.int .u8 0), .i (.int .u8 0), .i (.int .u8 0), .i (.int .u8 0), .i (.int .u8 0), .i (.int .u8 0), .i (.int .u8 0), .i (.int .u8 0), .i (.int .u8 0), .i (.int .u8 0), .i (.int .u8 0), .i (.int .u8 0), .i (.int .u8 0), .i (.int .u8 0), .i (.int .u8 0), .i (.int .u8 0), .i (.int .u8 0), .i (.int .u8 0), .i (.int .u8 0), .i (.int .u8 0)] := ZeroT.of (by kernel_rfl)
theorem U166 : Tryz.prog.underlying 166 = some (.int .u64) := by kernel_rfl
theorem AR332 : ArrT Tryz.prog 332 65 1 := ArrT.of (by kernel_rfl)
theorem SZ5 : SizeT Tryz.prog 5 1 := SizeT.of (by kernel_rfl)
theorem F42_1 : FieldAt Tryz.prog 42 1 1 28 := FieldAt.of (by kernel_rfl)
theorem F36_4 : FieldAt Tryz.prog 36 4 19 1 := FieldAt.of (by kernel_rfl)
theorem L23 : Leaf Tryz.prog 23 := Leaf.of (by kernel_rfl)
theorem F42_0 : FieldAt Tryz.prog 42 0 0 1 := FieldAt.of (by kernel_rfl)
theorem L38 : Leaf Tryz.prog 38 := Leaf.of (by kernel_rfl)
theorem Z102 : ZeroT Tryz.prog 102 [.i (.int .u8 0), .i (.int .u16 0), .i (.int .u16 0), .i (.int .u32 0), .i (.int .u32 0), .i (.bool false), .i (.str []), .i (.int .u64 0)] := ZeroT.of (by kernel_rfl)
theorem F105_1 : FieldAt Tryz.prog 105 1 28 1 := FieldAt.of (by kernel_rfl)
theorem L94 : Leaf Tryz.prog 94 := Leaf.of (by kernel_rfl)
theorem F152_0 : FieldAt Tryz.prog 152 0 0 1 := FieldAt.of (by kernel_rfl)
theorem L150 : Leaf Tryz.prog 150 := Leaf.of (by kernel_rfl)
theorem U150 : Tryz.prog.underlying 150 = some (.slice 262) := by kernel_rfl
theorem PL102 : PlacesT Tryz.prog 102 [(0, 5), (5, 1), (6, 1), (7, 1)] := PlacesT.of (by kernel_rfl)
theorem SZ102 : SizeT Tryz.prog 102 8 := SizeT.of (by kernel_rfl)
theorem Z98 : ZeroT Tryz.prog 98 [.i (.int .u8 0), .i (.int .u16 0), .i (.int .u32 0)] := ZeroT.of (by kernel_rfl)
theorem A98 : AggT Tryz.prog 98 3 := AggT.of (by kernel_rfl)
theorem A102 : AggT Tryz.prog 102 8 := AggT.of (by kernel_rfl)
theorem SZ98 : SizeT Tryz.prog 98 3 := SizeT.of (by kernel_rfl)
theorem F102_0 : FieldAt Tryz.prog 102 0 0 5 := FieldAt.of (by kernel_rfl)
theorem F100_3 : FieldAt Tryz.prog 100 3 3 1 := FieldAt.of (by kernel_rfl)
theorem F100_1 : FieldAt Tryz.prog 100 1 1 1 := FieldAt.of (by kernel_rfl)
theorem L96 : Leaf Tryz.prog 96 := Leaf.of (by kernel_rfl)
theorem U96 : Tryz.prog.underlying 96 = some (.int .u16) := by kernel_rfl
theorem F100_0 : FieldAt Tryz.prog 100 0 0 1 := FieldAt.of (by kernel_rfl)
theorem F100_2 : FieldAt Tryz.prog 100 2 2 1 := FieldAt.of (by kernel_rfl)
theorem F100_4 : FieldAt Tryz.prog 100 4 4 1 := FieldAt.of (by kernel_rfl)
theorem F102_1 : FieldAt Tryz.prog 102 1 5 1 := FieldAt.of (by kernel_rfl)
theorem L4 : Leaf Tryz.prog 4 := Leaf.of (by kernel_rfl)
theorem F102_2 : FieldAt Tryz.prog 102 2 6 1 := FieldAt.of (by kernel_rfl)
theorem F102_3 : FieldAt Tryz.prog 102 3 7 1 := FieldAt.of (by kernel_rfl)
theorem Z100 : ZeroT Tryz.prog 100 [.i (.int .u8 0), .i (.int .u16 0), .i (.int .u16 0), .i (.int .u32 0), .i (.int .u32 0)] := ZeroT.of (by kernel_rfl)
theorem PL100 : PlacesT Tryz.prog 100 [(0, 1), (1, 1), (2, 1), (3, 1), (4, 1)] := PlacesT.of (by kernel_rfl)
theorem SZ100 : SizeT Tryz.prog 100 5 := SizeT.of (by kernel_rfl)
theorem A100 : AggT Tryz.prog 100 5 := AggT.of (by kernel_rfl)
theorem PL98 : PlacesT Tryz.prog 98 [(0, 1), (1, 1), (2, 1)] := PlacesT.of (by kernel_rfl)
theorem F42_2 : FieldAt Tryz.prog 42 2 29 1 := FieldAt.of (by kernel_rfl)
theorem SZ96 : SizeT Tryz.prog 96 1 := SizeT.of (by kernel_rfl)
theorem SZ23 : SizeT Tryz.prog 23 1 := SizeT.of (by kernel_rfl)
theorem F105_0 : FieldAt Tryz.prog 105 0 0 28 := FieldAt.of (by kernel_rfl)
theorem F36_3 : FieldAt Tryz.prog 36 3 18 1 := FieldAt.of (by kernel_rfl)
theorem F36_5 : FieldAt Tryz.prog 36 5 20 1 := FieldAt.of (by kernel_rfl)
theorem EG31 : Tryz.prog.eqGuardType Tryz.prog.depth 31 = false := by kernel_rfl
theorem AB31 : aggB Tryz.prog 31 2 = true := by kernel_rfl
theorem U50 : Tryz.prog.underlying 50 = some (.slice 3) := by kernel_rfl
theorem SZ3 : SizeT Tryz.prog 3 1 := SizeT.of (by kernel_rfl)
theorem Z3 : ZeroT Tryz.prog 3 [.i (.int .i64 0)] := ZeroT.of (by kernel_rfl)
theorem ST50 : SliceT Tryz.prog 50 1 := SliceT.of (by kernel_rfl)

end Go.Ab
