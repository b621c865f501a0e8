/- Facts on this program's types and functions. No condition. -/
import Derived.Test.YtkoijkcjnppamaaGreatDoorWc
import Derived.Test.YtkoijkcjnppamaaGreatDoorTa1
/- The facts on types and functions that the walks use. -/
namespace Go.Ev
open Go.Proofs
set_option autoImplicit false
set_option linter.unusedVariables false
noncomputable abbrev E0 : Env := (Tn []).envS N0
theorem E0_ok : EnvOK Tryz.prog E0 := Tn_ok none_ok
/-- .. where what is appended to nil is only read from then on -/
noncomputable abbrev E1 : Env := frzOn E0
theorem E1_ok : EnvOK Tryz.prog E1 := frzOn_ok E0_ok
theorem E0_frz : E0.frz = false := by unfold E0; rfl
attribute [go_sem] E0_frz
theorem ty2 : E0.ty 2 = some { und := TypeDesc.int IntKind.i64, size := 1, bytes := 8, agg := false, zero := some [AV.int IntKind.i64 0], flds := [], eqk := none, zv := some (AV.int IntKind.i64 0) } := by kernel_rfl
theorem ty3 : E0.ty 3 = some { und := TypeDesc.int IntKind.i64, size := 1, bytes := 8, agg := false, zero := some [AV.int IntKind.i64 0], flds := [], eqk := none, zv := some (AV.int IntKind.i64 0) } := by kernel_rfl
theorem ty4 : E0.ty 4 = some { und := TypeDesc.bool, size := 1, bytes := 1, agg := false, zero := some [AV.bool false], flds := [], eqk := none, zv := some (AV.bool false) } := by kernel_rfl
theorem ty5 : E0.ty 5 = some { und := TypeDesc.int IntKind.u8, size := 1, bytes := 1, agg := false, zero := some [AV.int IntKind.u8 0], flds := [], eqk := none, zv := some (AV.int IntKind.u8 0) } := by kernel_rfl
theorem ty9 : E0.ty 9 = some { und := TypeDesc.string, size := 1, bytes := 16, agg := false, zero := some [AV.str []], flds := [], eqk := none, zv := some (AV.str []) } := by kernel_rfl
theorem ty12 : E0.ty 12 = some { und := TypeDesc.int IntKind.u64, size := 1, bytes := 8, agg := false, zero := some [AV.int IntKind.u64 0], flds := [], eqk := none, zv := some (AV.int IntKind.u64 0) } := by kernel_rfl
noncomputable def fs13 : Array Field := match Tryz.prog.underlying 13 with | some (.struct fs) => fs | _ => #[]
noncomputable def ti13 : TI := { und := .struct fs13, size := 2, bytes := 24, agg := true, zero := some [AV.str [], AV.int IntKind.u64 0], flds := [(0, 1, false), (1, 1, false)], eqk := none, zv := some (AV.agg [AV.str [], AV.int IntKind.u64 0]) }
theorem ty13 : E0.ty 13 = some ti13 := by kernel_rfl
theorem ti13_und : ti13.und = TypeDesc.struct fs13 := rfl
theorem ti13_size : ti13.size = 2 := rfl
theorem ti13_bytes : ti13.bytes = 24 := rfl
theorem ti13_agg : ti13.agg = true := rfl
theorem ti13_zero : ti13.zero = some [AV.str [], AV.int IntKind.u64 0] := rfl
theorem ti13_flds : ti13.flds = [(0, 1, false), (1, 1, false)] := rfl
theorem ti13_eqk : ti13.eqk = none := rfl
theorem ti13_zv : ti13.zv = some (AV.agg [AV.str [], AV.int IntKind.u64 0]) := rfl
theorem ty21 : E0.ty 21 = some { und := TypeDesc.int IntKind.i32, size := 1, bytes := 4, agg := false, zero := some [AV.int IntKind.i32 0], flds := [], eqk := none, zv := some (AV.int IntKind.i32 0) } := by kernel_rfl
theorem ty22 : E0.ty 22 = some { und := TypeDesc.slice 9, size := 1, bytes := 24, agg := false, zero := some [AV.nsl], flds := [], eqk := none, zv := some AV.nsl } := by kernel_rfl
theorem ty23 : E0.ty 23 = some { und := TypeDesc.slice 57, size := 1, bytes := 24, agg := false, zero := some [AV.nsl], flds := [], eqk := none, zv := some AV.nsl } := by kernel_rfl
noncomputable def fs24 : Array Field := match Tryz.prog.underlying 24 with | some (.struct fs) => fs | _ => #[]
noncomputable def ti24 : TI := { und := .struct fs24, size := 5, bytes := 112, agg := true, zero := some [AV.str [], AV.nsl, AV.nsl, AV.nsl, AV.nsl], flds := [(0, 1, false), (1, 1, false), (2, 1, false), (3, 1, false), (4, 1, false)], eqk := none, zv := some (AV.agg [AV.str [], AV.nsl, AV.nsl, AV.nsl, AV.nsl]) }
theorem ty24 : E0.ty 24 = some ti24 := by kernel_rfl
theorem ti24_und : ti24.und = TypeDesc.struct fs24 := rfl
theorem ti24_size : ti24.size = 5 := rfl
theorem ti24_bytes : ti24.bytes = 112 := rfl
theorem ti24_agg : ti24.agg = true := rfl
theorem ti24_zero : ti24.zero = some [AV.str [], AV.nsl, AV.nsl, AV.nsl, AV.nsl] := rfl
theorem ti24_flds : ti24.flds = [(0, 1, false), (1, 1, false), (2, 1, false), (3, 1, false), (4, 1, false)] := rfl
theorem ti24_eqk : ti24.eqk = none := rfl
theorem ti24_zv : ti24.zv = some (AV.agg [AV.str [], AV.nsl, AV.nsl, AV.nsl, AV.nsl]) := rfl
noncomputable def fs25 : Array Field := match Tryz.prog.underlying 25 with | some (.struct fs) => fs | _ => #[]
noncomputable def ti25 : TI := { und := .struct fs25, size := 5, bytes := 112, agg := true, zero := some [AV.str [], AV.nsl, AV.nsl, AV.nsl, AV.nsl], flds := [(0, 1, false), (1, 1, false), (2, 1, false), (3, 1, false), (4, 1, false)], eqk := none, zv := some (AV.agg [AV.str [], AV.nsl, AV.nsl, AV.nsl, AV.nsl]) }
theorem ty25 : E0.ty 25 = some ti25 := by kernel_rfl
theorem ti25_und : ti25.und = TypeDesc.struct fs25 := rfl
theorem ti25_size : ti25.size = 5 := rfl
theorem ti25_bytes : ti25.bytes = 112 := rfl
theorem ti25_agg : ti25.agg = true := rfl
theorem ti25_zero : ti25.zero = some [AV.str [], AV.nsl, AV.nsl, AV.nsl, AV.nsl] := rfl
theorem ti25_flds : ti25.flds = [(0, 1, false), (1, 1, false), (2, 1, false), (3, 1, false), (4, 1, false)] := rfl
theorem ti25_eqk : ti25.eqk = none := rfl
theorem ti25_zv : ti25.zv = some (AV.agg [AV.str [], AV.nsl, AV.nsl, AV.nsl, AV.nsl]) := rfl
theorem ty26 : E0.ty 26 = some { und := TypeDesc.slice 34, size := 1, bytes := 24, agg := false, zero := some [AV.nsl], flds := [], eqk := none, zv := some AV.nsl } := by kernel_rfl
noncomputable def fs33 : Array Field := match Tryz.prog.underlying 33 with | some (.struct fs) => fs | _ => #[]
noncomputable def ti33 : TI := { und := .struct fs33, size := 2, bytes := 24, agg := true, zero := some [AV.bool false, AV.str []], flds := [(0, 1, false), (1, 1, false)], eqk := some [TypeDesc.bool, TypeDesc.string], zv := some (AV.agg [AV.bool false, AV.str []]) }
theorem ty33 : E0.ty 33 = some ti33 := by kernel_rfl
theorem ti33_und : ti33.und = TypeDesc.struct fs33 := rfl
theorem ti33_size : ti33.size = 2 := rfl
theorem ti33_bytes : ti33.bytes = 24 := rfl
theorem ti33_agg : ti33.agg = true := rfl
theorem ti33_zero : ti33.zero = some [AV.bool false, AV.str []] := rfl
theorem ti33_flds : ti33.flds = [(0, 1, false), (1, 1, false)] := rfl
theorem ti33_eqk : ti33.eqk = some [TypeDesc.bool, TypeDesc.string] := rfl
theorem ti33_zv : ti33.zv = some (AV.agg [AV.bool false, AV.str []]) := rfl
noncomputable def fs34 : Array Field := match Tryz.prog.underlying 34 with | some (.struct fs) => fs | _ => #[]
noncomputable def ti34 : TI := { und := .struct fs34, size := 2, bytes := 24, agg := true, zero := some [AV.bool false, AV.str []], flds := [(0, 1, false), (1, 1, false)], eqk := some [TypeDesc.bool, TypeDesc.string], zv := some (AV.agg [AV.bool false, AV.str []]) }
theorem ty34 : E0.ty 34 = some ti34 := by kernel_rfl
theorem ti34_und : ti34.und = TypeDesc.struct fs34 := rfl
theorem ti34_size : ti34.size = 2 := rfl
theorem ti34_bytes : ti34.bytes = 24 := rfl
theorem ti34_agg : ti34.agg = true := rfl
theorem ti34_zero : ti34.zero = some [AV.bool false, AV.str []] := rfl
theorem ti34_flds : ti34.flds = [(0, 1, false), (1, 1, false)] := rfl
theorem ti34_eqk : ti34.eqk = some [TypeDesc.bool, TypeDesc.string] := rfl
theorem ti34_zv : ti34.zv = some (AV.agg [AV.bool false, AV.str []]) := rfl
theorem ty39 : E0.ty 39 = some { und := TypeDesc.slice 3, size := 1, bytes := 24, agg := false, zero := some [AV.nsl], flds := [], eqk := none, zv := some AV.nsl } := by kernel_rfl
theorem ty40 : E0.ty 40 = some { und := TypeDesc.slice 4, size := 1, bytes := 24, agg := false, zero := some [AV.nsl], flds := [], eqk := none, zv := some AV.nsl } := by kernel_rfl
theorem ty53 : E0.ty 53 = some { und := TypeDesc.int IntKind.i64, size := 1, bytes := 8, agg := false, zero := some [AV.int IntKind.i64 0], flds := [], eqk := none, zv := some (AV.int IntKind.i64 0) } := by kernel_rfl
noncomputable def fs56 : Array Field := match Tryz.prog.underlying 56 with | some (.struct fs) => fs | _ => #[]
noncomputable def ti56 : TI := { und := .struct fs56, size := 5, bytes := 80, agg := true, zero := some [AV.str [], AV.int IntKind.i64 0, AV.nsl, AV.nsl, AV.int IntKind.i64 0], flds := [(0, 1, false), (1, 1, false), (2, 1, false), (3, 1, false), (4, 1, false)], eqk := none, zv := some (AV.agg [AV.str [], AV.int IntKind.i64 0, AV.nsl, AV.nsl, AV.int IntKind.i64 0]) }
theorem ty56 : E0.ty 56 = some ti56 := by kernel_rfl
theorem ti56_und : ti56.und = TypeDesc.struct fs56 := rfl
theorem ti56_size : ti56.size = 5 := rfl
theorem ti56_bytes : ti56.bytes = 80 := rfl
theorem ti56_agg : ti56.agg = true := rfl
theorem ti56_zero : ti56.zero = some [AV.str [], AV.int IntKind.i64 0, AV.nsl, AV.nsl, AV.int IntKind.i64 0] := rfl
theorem ti56_flds : ti56.flds = [(0, 1, false), (1, 1, false), (2, 1, false), (3, 1, false), (4, 1, false)] := rfl
theorem ti56_eqk : ti56.eqk = none := rfl
theorem ti56_zv : ti56.zv = some (AV.agg [AV.str [], AV.int IntKind.i64 0, AV.nsl, AV.nsl, AV.int IntKind.i64 0]) := rfl
noncomputable def fs57 : Array Field := match Tryz.prog.underlying 57 with | some (.struct fs) => fs | _ => #[]
noncomputable def ti57 : TI := { und := .struct fs57, size := 5, bytes := 80, agg := true, zero := some [AV.str [], AV.int IntKind.i64 0, AV.nsl, AV.nsl, AV.int IntKind.i64 0], flds := [(0, 1, false), (1, 1, false), (2, 1, false), (3, 1, false), (4, 1, false)], eqk := none, zv := some (AV.agg [AV.str [], AV.int IntKind.i64 0, AV.nsl, AV.nsl, AV.int IntKind.i64 0]) }
theorem ty57 : E0.ty 57 = some ti57 := by kernel_rfl
theorem ti57_und : ti57.und = TypeDesc.struct fs57 := rfl
theorem ti57_size : ti57.size = 5 := rfl
theorem ti57_bytes : ti57.bytes = 80 := rfl
theorem ti57_agg : ti57.agg = true := rfl
theorem ti57_zero : ti57.zero = some [AV.str [], AV.int IntKind.i64 0, AV.nsl, AV.nsl, AV.int IntKind.i64 0] := rfl
theorem ti57_flds : ti57.flds = [(0, 1, false), (1, 1, false), (2, 1, false), (3, 1, false), (4, 1, false)] := rfl
theorem ti57_eqk : ti57.eqk = none := rfl
theorem ti57_zv : ti57.zv = some (AV.agg [AV.str [], AV.int IntKind.i64 0, AV.nsl, AV.nsl, AV.int IntKind.i64 0]) := rfl
theorem ty61 : E0.ty 61 = some { und := TypeDesc.slice 25, size := 1, bytes := 24, agg := false, zero := some [AV.nsl], flds := [], eqk := none, zv := some AV.nsl } := by kernel_rfl
theorem ty68 : E0.ty 68 = some { und := TypeDesc.slice 40, size := 1, bytes := 24, agg := false, zero := some [AV.nsl], flds := [], eqk := none, zv := some AV.nsl } := by kernel_rfl
theorem ty79 : E0.ty 79 = some { und := TypeDesc.pointer 106, size := 1, bytes := 8, agg := false, zero := some [AV.nil], flds := [], eqk := none, zv := some AV.nil } := by kernel_rfl
noncomputable def fs81 : Array Field := match Tryz.prog.underlying 81 with | some (.struct fs) => fs | _ => #[]
noncomputable def ti81 : TI := { und := .struct fs81, size := 2, bytes := 32, agg := true, zero := some [AV.str [], AV.str []], flds := [(0, 1, false), (1, 1, false)], eqk := some [TypeDesc.string, TypeDesc.string], zv := some (AV.agg [AV.str [], AV.str []]) }
theorem ty81 : E0.ty 81 = some ti81 := by kernel_rfl
theorem ti81_und : ti81.und = TypeDesc.struct fs81 := rfl
theorem ti81_size : ti81.size = 2 := rfl
theorem ti81_bytes : ti81.bytes = 32 := rfl
theorem ti81_agg : ti81.agg = true := rfl
theorem ti81_zero : ti81.zero = some [AV.str [], AV.str []] := rfl
theorem ti81_flds : ti81.flds = [(0, 1, false), (1, 1, false)] := rfl
theorem ti81_eqk : ti81.eqk = some [TypeDesc.string, TypeDesc.string] := rfl
theorem ti81_zv : ti81.zv = some (AV.agg [AV.str [], AV.str []]) := rfl
noncomputable def fs82 : Array Field := match Tryz.prog.underlying 82 with | some (.struct fs) => fs | _ => #[]
noncomputable def ti82 : TI := { und := .struct fs82, size := 2, bytes := 32, agg := true, zero := some [AV.str [], AV.str []], flds := [(0, 1, false), (1, 1, false)], eqk := some [TypeDesc.string, TypeDesc.string], zv := some (AV.agg [AV.str [], AV.str []]) }
theorem ty82 : E0.ty 82 = some ti82 := by kernel_rfl
theorem ti82_und : ti82.und = TypeDesc.struct fs82 := rfl
theorem ti82_size : ti82.size = 2 := rfl
theorem ti82_bytes : ti82.bytes = 32 := rfl
theorem ti82_agg : ti82.agg = true := rfl
theorem ti82_zero : ti82.zero = some [AV.str [], AV.str []] := rfl
theorem ti82_flds : ti82.flds = [(0, 1, false), (1, 1, false)] := rfl
theorem ti82_eqk : ti82.eqk = some [TypeDesc.string, TypeDesc.string] := rfl
theorem ti82_zv : ti82.zv = some (AV.agg [AV.str [], AV.str []]) := rfl
theorem ty86 : E0.ty 86 = some { und := TypeDesc.map 9 34, size := 1, bytes := 8, agg := false, zero := some [AV.nmap], flds := [], eqk := none, zv := some AV.nmap } := by kernel_rfl
theorem ty93 : E0.ty 93 = some { und := TypeDesc.map 9 22, size := 1, bytes := 8, agg := false, zero := some [AV.nmap], flds := [], eqk := none, zv := some AV.nmap } := by kernel_rfl
theorem ty98 : E0.ty 98 = some { und := TypeDesc.slice 5, size := 1, bytes := 24, agg := false, zero := some [AV.nsl], flds := [], eqk := none, zv := some AV.nsl } := by kernel_rfl
theorem ty103 : E0.ty 103 = some { und := TypeDesc.slice 82, size := 1, bytes := 24, agg := false, zero := some [AV.nsl], flds := [], eqk := none, zv := some AV.nsl } := by kernel_rfl
theorem ty104 : E0.ty 104 = some { und := TypeDesc.map 9 9, size := 1, bytes := 8, agg := false, zero := some [AV.nmap], flds := [], eqk := none, zv := some AV.nmap } := by kernel_rfl
noncomputable def fs105 : Array Field := match Tryz.prog.underlying 105 with | some (.struct fs) => fs | _ => #[]
noncomputable def ti105 : TI := { und := .struct fs105, size := 1, bytes := 8, agg := true, zero := some [AV.nmap], flds := [(0, 1, false)], eqk := none, zv := some (AV.agg [AV.nmap]) }
theorem ty105 : E0.ty 105 = some ti105 := by kernel_rfl
theorem ti105_und : ti105.und = TypeDesc.struct fs105 := rfl
theorem ti105_size : ti105.size = 1 := rfl
theorem ti105_bytes : ti105.bytes = 8 := rfl
theorem ti105_agg : ti105.agg = true := rfl
theorem ti105_zero : ti105.zero = some [AV.nmap] := rfl
theorem ti105_flds : ti105.flds = [(0, 1, false)] := rfl
theorem ti105_eqk : ti105.eqk = none := rfl
theorem ti105_zv : ti105.zv = some (AV.agg [AV.nmap]) := rfl
noncomputable def fs106 : Array Field := match Tryz.prog.underlying 106 with | some (.struct fs) => fs | _ => #[]
noncomputable def ti106 : TI := { und := .struct fs106, size := 1, bytes := 8, agg := true, zero := some [AV.nmap], flds := [(0, 1, false)], eqk := none, zv := some (AV.agg [AV.nmap]) }
theorem ty106 : E0.ty 106 = some ti106 := by kernel_rfl
theorem ti106_und : ti106.und = TypeDesc.struct fs106 := rfl
theorem ti106_size : ti106.size = 1 := rfl
theorem ti106_bytes : ti106.bytes = 8 := rfl
theorem ti106_agg : ti106.agg = true := rfl
theorem ti106_zero : ti106.zero = some [AV.nmap] := rfl
theorem ti106_flds : ti106.flds = [(0, 1, false)] := rfl
theorem ti106_eqk : ti106.eqk = none := rfl
theorem ti106_zv : ti106.zv = some (AV.agg [AV.nmap]) := rfl
theorem ty108 : E0.ty 108 = some { und := TypeDesc.pointer 110, size := 1, bytes := 8, agg := false, zero := some [AV.nil], flds := [], eqk := none, zv := some AV.nil } := by kernel_rfl
noncomputable def fs109 : Array Field := match Tryz.prog.underlying 109 with | some (.struct fs) => fs | _ => #[]
noncomputable def ti109 : TI := { und := .struct fs109, size := 3, bytes := 40, agg := true, zero := some [AV.nsl, AV.nil, AV.nmap], flds := [(0, 1, false), (1, 1, false), (2, 1, false)], eqk := none, zv := some (AV.agg [AV.nsl, AV.nil, AV.nmap]) }
theorem ty109 : E0.ty 109 = some ti109 := by kernel_rfl
theorem ti109_und : ti109.und = TypeDesc.struct fs109 := rfl
theorem ti109_size : ti109.size = 3 := rfl
theorem ti109_bytes : ti109.bytes = 40 := rfl
theorem ti109_agg : ti109.agg = true := rfl
theorem ti109_zero : ti109.zero = some [AV.nsl, AV.nil, AV.nmap] := rfl
theorem ti109_flds : ti109.flds = [(0, 1, false), (1, 1, false), (2, 1, false)] := rfl
theorem ti109_eqk : ti109.eqk = none := rfl
theorem ti109_zv : ti109.zv = some (AV.agg [AV.nsl, AV.nil, AV.nmap]) := rfl
noncomputable def fs110 : Array Field := match Tryz.prog.underlying 110 with | some (.struct fs) => fs | _ => #[]
noncomputable def ti110 : TI := { und := .struct fs110, size := 3, bytes := 40, agg := true, zero := some [AV.nsl, AV.nil, AV.nmap], flds := [(0, 1, false), (1, 1, false), (2, 1, false)], eqk := none, zv := some (AV.agg [AV.nsl, AV.nil, AV.nmap]) }
theorem ty110 : E0.ty 110 = some ti110 := by kernel_rfl
theorem ti110_und : ti110.und = TypeDesc.struct fs110 := rfl
theorem ti110_size : ti110.size = 3 := rfl
theorem ti110_bytes : ti110.bytes = 40 := rfl
theorem ti110_agg : ti110.agg = true := rfl
theorem ti110_zero : ti110.zero = some [AV.nsl, AV.nil, AV.nmap] := rfl
theorem ti110_flds : ti110.flds = [(0, 1, false), (1, 1, false), (2, 1, false)] := rfl
theorem ti110_eqk : ti110.eqk = none := rfl
theorem ti110_zv : ti110.zv = some (AV.agg [AV.nsl, AV.nil, AV.nmap]) := rfl
theorem ty115 : E0.ty 115 = some { und := TypeDesc.map 9 4, size := 1, bytes := 8, agg := false, zero := some [AV.nmap], flds := [], eqk := none, zv := some AV.nmap } := by kernel_rfl
theorem ty118 : E0.ty 118 = some { und := TypeDesc.slice 22, size := 1, bytes := 24, agg := false, zero := some [AV.nsl], flds := [], eqk := none, zv := some AV.nsl } := by kernel_rfl
theorem ty122 : E0.ty 122 = some { und := TypeDesc.int IntKind.u64, size := 1, bytes := 8, agg := false, zero := some [AV.int IntKind.u64 0], flds := [], eqk := none, zv := some (AV.int IntKind.u64 0) } := by kernel_rfl
theorem ty123 : E0.ty 123 = some { und := TypeDesc.map 9 3, size := 1, bytes := 8, agg := false, zero := some [AV.nmap], flds := [], eqk := none, zv := some AV.nmap } := by kernel_rfl
theorem ty139 : E0.ty 139 = some { und := TypeDesc.slice 147, size := 1, bytes := 24, agg := false, zero := some [AV.nsl], flds := [], eqk := none, zv := some AV.nsl } := by kernel_rfl
noncomputable def fs140 : Array Field := match Tryz.prog.underlying 140 with | some (.struct fs) => fs | _ => #[]
noncomputable def ti140 : TI := { und := .struct fs140, size := 2, bytes := 16, agg := true, zero := some [AV.int IntKind.i64 0, AV.int IntKind.i64 0], flds := [(0, 1, false), (1, 1, false)], eqk := some [TypeDesc.int IntKind.i64, TypeDesc.int IntKind.i64], zv := some (AV.agg [AV.int IntKind.i64 0, AV.int IntKind.i64 0]) }
theorem ty140 : E0.ty 140 = some ti140 := by kernel_rfl
theorem ti140_und : ti140.und = TypeDesc.struct fs140 := rfl
theorem ti140_size : ti140.size = 2 := rfl
theorem ti140_bytes : ti140.bytes = 16 := rfl
theorem ti140_agg : ti140.agg = true := rfl
theorem ti140_zero : ti140.zero = some [AV.int IntKind.i64 0, AV.int IntKind.i64 0] := rfl
theorem ti140_flds : ti140.flds = [(0, 1, false), (1, 1, false)] := rfl
theorem ti140_eqk : ti140.eqk = some [TypeDesc.int IntKind.i64, TypeDesc.int IntKind.i64] := rfl
theorem ti140_zv : ti140.zv = some (AV.agg [AV.int IntKind.i64 0, AV.int IntKind.i64 0]) := rfl
noncomputable def fs141 : Array Field := match Tryz.prog.underlying 141 with | some (.struct fs) => fs | _ => #[]
noncomputable def ti141 : TI := { und := .struct fs141, size := 2, bytes := 16, agg := true, zero := some [AV.int IntKind.i64 0, AV.int IntKind.i64 0], flds := [(0, 1, false), (1, 1, false)], eqk := some [TypeDesc.int IntKind.i64, TypeDesc.int IntKind.i64], zv := some (AV.agg [AV.int IntKind.i64 0, AV.int IntKind.i64 0]) }
theorem ty141 : E0.ty 141 = some ti141 := by kernel_rfl
theorem ti141_und : ti141.und = TypeDesc.struct fs141 := rfl
theorem ti141_size : ti141.size = 2 := rfl
theorem ti141_bytes : ti141.bytes = 16 := rfl
theorem ti141_agg : ti141.agg = true := rfl
theorem ti141_zero : ti141.zero = some [AV.int IntKind.i64 0, AV.int IntKind.i64 0] := rfl
theorem ti141_flds : ti141.flds = [(0, 1, false), (1, 1, false)] := rfl
theorem ti141_eqk : ti141.eqk = some [TypeDesc.int IntKind.i64, TypeDesc.int IntKind.i64] := rfl
theorem ti141_zv : ti141.zv = some (AV.agg [AV.int IntKind.i64 0, AV.int IntKind.i64 0]) := rfl
noncomputable def fs146 : Array Field := match Tryz.prog.underlying 146 with | some (.struct fs) => fs | _ => #[]
noncomputable def ti146 : TI := { und := .struct fs146, size := 3, bytes := 32, agg := true, zero := some [AV.int IntKind.i64 0, AV.int IntKind.i64 0, AV.str []], flds := [(0, 1, false), (1, 1, false), (2, 1, false)], eqk := some [TypeDesc.int IntKind.i64, TypeDesc.int IntKind.i64, TypeDesc.string], zv := some (AV.agg [AV.int IntKind.i64 0, AV.int IntKind.i64 0, AV.str []]) }
theorem ty146 : E0.ty 146 = some ti146 := by kernel_rfl
theorem ti146_und : ti146.und = TypeDesc.struct fs146 := rfl
theorem ti146_size : ti146.size = 3 := rfl
theorem ti146_bytes : ti146.bytes = 32 := rfl
theorem ti146_agg : ti146.agg = true := rfl
theorem ti146_zero : ti146.zero = some [AV.int IntKind.i64 0, AV.int IntKind.i64 0, AV.str []] := rfl
theorem ti146_flds : ti146.flds = [(0, 1, false), (1, 1, false), (2, 1, false)] := rfl
theorem ti146_eqk : ti146.eqk = some [TypeDesc.int IntKind.i64, TypeDesc.int IntKind.i64, TypeDesc.string] := rfl
theorem ti146_zv : ti146.zv = some (AV.agg [AV.int IntKind.i64 0, AV.int IntKind.i64 0, AV.str []]) := rfl
noncomputable def fs147 : Array Field := match Tryz.prog.underlying 147 with | some (.struct fs) => fs | _ => #[]
noncomputable def ti147 : TI := { und := .struct fs147, size := 3, bytes := 32, agg := true, zero := some [AV.int IntKind.i64 0, AV.int IntKind.i64 0, AV.str []], flds := [(0, 1, false), (1, 1, false), (2, 1, false)], eqk := some [TypeDesc.int IntKind.i64, TypeDesc.int IntKind.i64, TypeDesc.string], zv := some (AV.agg [AV.int IntKind.i64 0, AV.int IntKind.i64 0, AV.str []]) }
theorem ty147 : E0.ty 147 = some ti147 := by kernel_rfl
theorem ti147_und : ti147.und = TypeDesc.struct fs147 := rfl
theorem ti147_size : ti147.size = 3 := rfl
theorem ti147_bytes : ti147.bytes = 32 := rfl
theorem ti147_agg : ti147.agg = true := rfl
theorem ti147_zero : ti147.zero = some [AV.int IntKind.i64 0, AV.int IntKind.i64 0, AV.str []] := rfl
theorem ti147_flds : ti147.flds = [(0, 1, false), (1, 1, false), (2, 1, false)] := rfl
theorem ti147_eqk : ti147.eqk = some [TypeDesc.int IntKind.i64, TypeDesc.int IntKind.i64, TypeDesc.string] := rfl
theorem ti147_zv : ti147.zv = some (AV.agg [AV.int IntKind.i64 0, AV.int IntKind.i64 0, AV.str []]) := rfl
theorem ty163 : E0.ty 163 = some { und := TypeDesc.int IntKind.u32, size := 1, bytes := 4, agg := false, zero := some [AV.int IntKind.u32 0], flds := [], eqk := none, zv := some (AV.int IntKind.u32 0) } := by kernel_rfl
theorem ty165 : E0.ty 165 = some { und := TypeDesc.int IntKind.u64, size := 1, bytes := 8, agg := false, zero := some [AV.int IntKind.u64 0], flds := [], eqk := none, zv := some (AV.int IntKind.u64 0) } := by kernel_rfl
theorem ty166 : E0.ty 166 = some { und := TypeDesc.pointer 168, size := 1, bytes := 8, agg := false, zero := some [AV.nil], flds := [], eqk := none, zv := some AV.nil } := by kernel_rfl
noncomputable def fs167 : Array Field := match Tryz.prog.underlying 167 with | some (.struct fs) => fs | _ => #[]
noncomputable def ti167 : TI := { und := .struct fs167, size := 2, bytes := 32, agg := true, zero := some [AV.nil, AV.nsl], flds := [(0, 1, false), (1, 1, false)], eqk := none, zv := some (AV.agg [AV.nil, AV.nsl]) }
theorem ty167 : E0.ty 167 = some ti167 := by kernel_rfl
theorem ti167_und : ti167.und = TypeDesc.struct fs167 := rfl
theorem ti167_size : ti167.size = 2 := rfl
theorem ti167_bytes : ti167.bytes = 32 := rfl
theorem ti167_agg : ti167.agg = true := rfl
theorem ti167_zero : ti167.zero = some [AV.nil, AV.nsl] := rfl
theorem ti167_flds : ti167.flds = [(0, 1, false), (1, 1, false)] := rfl
theorem ti167_eqk : ti167.eqk = none := rfl
theorem ti167_zv : ti167.zv = some (AV.agg [AV.nil, AV.nsl]) := rfl
noncomputable def fs168 : Array Field := match Tryz.prog.underlying 168 with | some (.struct fs) => fs | _ => #[]
noncomputable def ti168 : TI := { und := .struct fs168, size := 2, bytes := 32, agg := true, zero := some [AV.nil, AV.nsl], flds := [(0, 1, false), (1, 1, false)], eqk := none, zv := some (AV.agg [AV.nil, AV.nsl]) }
theorem ty168 : E0.ty 168 = some ti168 := by kernel_rfl
theorem ti168_und : ti168.und = TypeDesc.struct fs168 := rfl
theorem ti168_size : ti168.size = 2 := rfl
theorem ti168_bytes : ti168.bytes = 32 := rfl
theorem ti168_agg : ti168.agg = true := rfl
theorem ti168_zero : ti168.zero = some [AV.nil, AV.nsl] := rfl
theorem ti168_flds : ti168.flds = [(0, 1, false), (1, 1, false)] := rfl
theorem ti168_eqk : ti168.eqk = none := rfl
theorem ti168_zv : ti168.zv = some (AV.agg [AV.nil, AV.nsl]) := rfl
noncomputable def fs182 : Array Field := match Tryz.prog.underlying 182 with | some (.struct fs) => fs | _ => #[]
noncomputable def ti182 : TI := { und := .struct fs182, size := 2, bytes := 32, agg := true, zero := some [AV.nsl, AV.int IntKind.i64 0], flds := [(0, 1, false), (1, 1, false)], eqk := none, zv := some (AV.agg [AV.nsl, AV.int IntKind.i64 0]) }
theorem ty182 : E0.ty 182 = some ti182 := by kernel_rfl
theorem ti182_und : ti182.und = TypeDesc.struct fs182 := rfl
theorem ti182_size : ti182.size = 2 := rfl
theorem ti182_bytes : ti182.bytes = 32 := rfl
theorem ti182_agg : ti182.agg = true := rfl
theorem ti182_zero : ti182.zero = some [AV.nsl, AV.int IntKind.i64 0] := rfl
theorem ti182_flds : ti182.flds = [(0, 1, false), (1, 1, false)] := rfl
theorem ti182_eqk : ti182.eqk = none := rfl
theorem ti182_zv : ti182.zv = some (AV.agg [AV.nsl, AV.int IntKind.i64 0]) := rfl
theorem ty195 : E0.ty 195 = some { und := TypeDesc.pointer 3, size := 1, bytes := 8, agg := false, zero := some [AV.nil], flds := [], eqk := none, zv := some AV.nil } := by kernel_rfl
theorem ty197 : E0.ty 197 = some { und := TypeDesc.pointer 5, size := 1, bytes := 8, agg := false, zero := some [AV.nil], flds := [], eqk := none, zv := some AV.nil } := by kernel_rfl
theorem fn3 : E0.fn 3 = some Tryz.f3 := by kernel_rfl
theorem cv3 (args : List AV) (h : AH) : callV E0 3 args h = some (.enter 3 args) := by unfold callV; rw [fn3]; rfl
theorem fn4 : E0.fn 4 = some Tryz.f4 := by kernel_rfl
theorem cv4 (args : List AV) (h : AH) : callV E0 4 args h = some (.enter 4 args) := by unfold callV; rw [fn4]; rfl
theorem fn5 : E0.fn 5 = some Tryz.f5 := by kernel_rfl
theorem cv5 (args : List AV) (h : AH) : callV E0 5 args h = some (.enter 5 args) := by unfold callV; rw [fn5]; rfl
theorem fn6 : E0.fn 6 = some Tryz.f6 := by kernel_rfl
theorem cv6 (args : List AV) (h : AH) : callV E0 6 args h = some (.enter 6 args) := by unfold callV; rw [fn6]; rfl
theorem fn7 : E0.fn 7 = some Tryz.f7 := by kernel_rfl
theorem cv7 (args : List AV) (h : AH) : callV E0 7 args h = some (.enter 7 args) := by unfold callV; rw [fn7]; rfl
theorem fn8 : E0.fn 8 = some Tryz.f8 := by kernel_rfl
theorem cv8 (args : List AV) (h : AH) : callV E0 8 args h = some (.enter 8 args) := by unfold callV; rw [fn8]; rfl
theorem fn9 : E0.fn 9 = some Tryz.f9 := by kernel_rfl
theorem cv9 (args : List AV) (h : AH) : callV E0 9 args h = some (.enter 9 args) := by unfold callV; rw [fn9]; rfl
theorem fn10 : E0.fn 10 = some Tryz.f10 := by kernel_rfl
theorem cv10 (args : List AV) (h : AH) : callV E0 10 args h = some (.enter 10 args) := by unfold callV; rw [fn10]; rfl
theorem fn11 : E0.fn 11 = some Tryz.f11 := by kernel_rfl
theorem cv11 (args : List AV) (h : AH) : callV E0 11 args h = some (.enter 11 args) := by unfold callV; rw [fn11]; rfl
theorem fn12 : E0.fn 12 = some Tryz.f12 := by kernel_rfl
theorem cv12 (args : List AV) (h : AH) : callV E0 12 args h = some (.enter 12 args) := by unfold callV; rw [fn12]; rfl
theorem fn13 : E0.fn 13 = some Tryz.f13 := by kernel_rfl
theorem cv13 (args : List AV) (h : AH) : callV E0 13 args h = some (.enter 13 args) := by unfold callV; rw [fn13]; rfl
theorem fn14 : E0.fn 14 = some Tryz.f14 := by kernel_rfl
theorem cv14 (args : List AV) (h : AH) : callV E0 14 args h = some (.enter 14 args) := by unfold callV; rw [fn14]; rfl
theorem fn15 : E0.fn 15 = some Tryz.f15 := by kernel_rfl
theorem cv15 (args : List AV) (h : AH) : callV E0 15 args h = some (.enter 15 args) := by unfold callV; rw [fn15]; rfl
theorem fn16 : E0.fn 16 = some Tryz.f16 := by kernel_rfl
theorem cv16 (args : List AV) (h : AH) : callV E0 16 args h = some (.enter 16 args) := by unfold callV; rw [fn16]; rfl
theorem fn17 : E0.fn 17 = some Tryz.f17 := by kernel_rfl
theorem cv17 (args : List AV) (h : AH) : callV E0 17 args h = some (.enter 17 args) := by unfold callV; rw [fn17]; rfl
theorem fn18 : E0.fn 18 = some Tryz.f18 := by kernel_rfl
theorem cv18 (args : List AV) (h : AH) : callV E0 18 args h = some (.enter 18 args) := by unfold callV; rw [fn18]; rfl
theorem fn19 : E0.fn 19 = some Tryz.f19 := by kernel_rfl
theorem cv19 (args : List AV) (h : AH) : callV E0 19 args h = some (.enter 19 args) := by unfold callV; rw [fn19]; rfl
theorem fn20 : E0.fn 20 = some Tryz.f20 := by kernel_rfl
theorem cv20 (args : List AV) (h : AH) : callV E0 20 args h = some (.enter 20 args) := by unfold callV; rw [fn20]; rfl
theorem fn21 : E0.fn 21 = some Tryz.f21 := by kernel_rfl
theorem cv21 (args : List AV) (h : AH) : callV E0 21 args h = some (.enter 21 args) := by unfold callV; rw [fn21]; rfl
theorem fn22 : E0.fn 22 = some Tryz.f22 := by kernel_rfl
theorem cv22 (args : List AV) (h : AH) : callV E0 22 args h = some (.enter 22 args) := by unfold callV; rw [fn22]; rfl
theorem fn23 : E0.fn 23 = some Tryz.f23 := by kernel_rfl
theorem cv23 (args : List AV) (h : AH) : callV E0 23 args h = some (.enter 23 args) := by unfold callV; rw [fn23]; rfl
theorem fn24 : E0.fn 24 = some Tryz.f24 := by kernel_rfl
theorem cv24 (args : List AV) (h : AH) : callV E0 24 args h = some (.enter 24 args) := by unfold callV; rw [fn24]; rfl
theorem fn25 : E0.fn 25 = some Tryz.f25 := by kernel_rfl
theorem cv25 (args : List AV) (h : AH) : callV E0 25 args h = some (.enter 25 args) := by unfold callV; rw [fn25]; rfl
theorem fn26 : E0.fn 26 = some Tryz.f26 := by kernel_rfl
theorem cv26 (args : List AV) (h : AH) : callV E0 26 args h = some (.enter 26 args) := by unfold callV; rw [fn26]; rfl
theorem fn27 : E0.fn 27 = some Tryz.f27 := by kernel_rfl
theorem cv27 (args : List AV) (h : AH) : callV E0 27 args h = some (.enter 27 args) := by unfold callV; rw [fn27]; rfl
theorem fn28 : E0.fn 28 = some Tryz.f28 := by kernel_rfl
theorem cv28 (args : List AV) (h : AH) : callV E0 28 args h = some (.enter 28 args) := by unfold callV; rw [fn28]; rfl
theorem fn29 : E0.fn 29 = some Tryz.f29 := by kernel_rfl
theorem cv29 (args : List AV) (h : AH) : callV E0 29 args h = some (.enter 29 args) := by unfold callV; rw [fn29]; rfl
theorem fn30 : E0.fn 30 = some Tryz.f30 := by kernel_rfl
theorem cv30 (args : List AV) (h : AH) : callV E0 30 args h = some (.enter 30 args) := by unfold callV; rw [fn30]; rfl
theorem fn31 : E0.fn 31 = some Tryz.f31 := by kernel_rfl
theorem cv31 (args : List AV) (h : AH) : callV E0 31 args h = some (.enter 31 args) := by unfold callV; rw [fn31]; rfl
theorem fn32 : E0.fn 32 = some Tryz.f32 := by kernel_rfl
theorem cv32 (args : List AV) (h : AH) : callV E0 32 args h = some (.enter 32 args) := by unfold callV; rw [fn32]; rfl
theorem fn33 : E0.fn 33 = some Tryz.f33 := by kernel_rfl
theorem cv33 (args : List AV) (h : AH) : callV E0 33 args h = some (.enter 33 args) := by unfold callV; rw [fn33]; rfl
theorem fn34 : E0.fn 34 = some Tryz.f34 := by kernel_rfl
theorem cv34 (args : List AV) (h : AH) : callV E0 34 args h = some (.enter 34 args) := by unfold callV; rw [fn34]; rfl
theorem fn35 : E0.fn 35 = some Tryz.f35 := by kernel_rfl
theorem cv35 (args : List AV) (h : AH) : callV E0 35 args h = some (.enter 35 args) := by unfold callV; rw [fn35]; rfl
theorem fn36 : E0.fn 36 = some Tryz.f36 := by kernel_rfl
theorem cv36 (args : List AV) (h : AH) : callV E0 36 args h = some (.enter 36 args) := by unfold callV; rw [fn36]; rfl
theorem fn37 : E0.fn 37 = some Tryz.f37 := by kernel_rfl
theorem cv37 (args : List AV) (h : AH) : callV E0 37 args h = some (.enter 37 args) := by unfold callV; rw [fn37]; rfl
theorem fn38 : E0.fn 38 = some Tryz.f38 := by kernel_rfl
theorem cv38 (args : List AV) (h : AH) : callV E0 38 args h = some (.enter 38 args) := by unfold callV; rw [fn38]; rfl
theorem fn39 : E0.fn 39 = some Tryz.f39 := by kernel_rfl
theorem cv39 (args : List AV) (h : AH) : callV E0 39 args h = some (.enter 39 args) := by unfold callV; rw [fn39]; rfl
theorem fn40 : E0.fn 40 = some Tryz.f40 := by kernel_rfl
theorem cv40 (args : List AV) (h : AH) : callV E0 40 args h = some (.enter 40 args) := by unfold callV; rw [fn40]; rfl
theorem fn41 : E0.fn 41 = some Tryz.f41 := by kernel_rfl
theorem cv41 (args : List AV) (h : AH) : callV E0 41 args h = some (.enter 41 args) := by unfold callV; rw [fn41]; rfl
theorem fn42 : E0.fn 42 = some Tryz.f42 := by kernel_rfl
theorem cv42 (args : List AV) (h : AH) : callV E0 42 args h = some (.enter 42 args) := by unfold callV; rw [fn42]; rfl
theorem fn43 : E0.fn 43 = some Tryz.f43 := by kernel_rfl
theorem cv43 (args : List AV) (h : AH) : callV E0 43 args h = some (.enter 43 args) := by unfold callV; rw [fn43]; rfl
theorem fn44 : E0.fn 44 = some Tryz.f44 := by kernel_rfl
theorem cv44 (args : List AV) (h : AH) : callV E0 44 args h = some (.enter 44 args) := by unfold callV; rw [fn44]; rfl
theorem fn45 : E0.fn 45 = some Tryz.f45 := by kernel_rfl
theorem cv45 (args : List AV) (h : AH) : callV E0 45 args h = some (.enter 45 args) := by unfold callV; rw [fn45]; rfl
theorem fn46 : E0.fn 46 = some Tryz.f46 := by kernel_rfl
theorem cv46 (args : List AV) (h : AH) : callV E0 46 args h = some (.enter 46 args) := by unfold callV; rw [fn46]; rfl
theorem fn47 : E0.fn 47 = some Tryz.f47 := by kernel_rfl
theorem cv47 (args : List AV) (h : AH) : callV E0 47 args h = some (.enter 47 args) := by unfold callV; rw [fn47]; rfl
theorem fn48 : E0.fn 48 = some Tryz.f48 := by kernel_rfl
theorem cv48 (args : List AV) (h : AH) : callV E0 48 args h = some (.enter 48 args) := by unfold callV; rw [fn48]; rfl
theorem fn49 : E0.fn 49 = some Tryz.f49 := by kernel_rfl
theorem cv49 (args : List AV) (h : AH) : callV E0 49 args h = some (.enter 49 args) := by unfold callV; rw [fn49]; rfl
theorem fn50 : E0.fn 50 = some Tryz.f50 := by kernel_rfl
theorem cv50 (args : List AV) (h : AH) : callV E0 50 args h = some (.enter 50 args) := by unfold callV; rw [fn50]; rfl
theorem fn51 : E0.fn 51 = some Tryz.f51 := by kernel_rfl
theorem cv51 (args : List AV) (h : AH) : callV E0 51 args h = some (.enter 51 args) := by unfold callV; rw [fn51]; rfl
theorem fn52 : E0.fn 52 = some Tryz.f52 := by kernel_rfl
theorem cv52 (args : List AV) (h : AH) : callV E0 52 args h = some (.enter 52 args) := by unfold callV; rw [fn52]; rfl
theorem fn53 : E0.fn 53 = some Tryz.f53 := by kernel_rfl
theorem cv53 (args : List AV) (h : AH) : callV E0 53 args h = some (.enter 53 args) := by unfold callV; rw [fn53]; rfl
theorem fn54 : E0.fn 54 = some Tryz.f54 := by kernel_rfl
theorem cv54 (args : List AV) (h : AH) : callV E0 54 args h = some (.enter 54 args) := by unfold callV; rw [fn54]; rfl
theorem fn55 : E0.fn 55 = some Tryz.f55 := by kernel_rfl
theorem cv55 (args : List AV) (h : AH) : callV E0 55 args h = some (.enter 55 args) := by unfold callV; rw [fn55]; rfl
theorem fn56 : E0.fn 56 = some Tryz.f56 := by kernel_rfl
theorem cv56 (args : List AV) (h : AH) : callV E0 56 args h = some (.enter 56 args) := by unfold callV; rw [fn56]; rfl
theorem fn57 : E0.fn 57 = some Tryz.f57 := by kernel_rfl
theorem cv57 (args : List AV) (h : AH) : callV E0 57 args h = some (.enter 57 args) := by unfold callV; rw [fn57]; rfl
theorem fn58 : E0.fn 58 = some Tryz.f58 := by kernel_rfl
theorem cv58 (args : List AV) (h : AH) : callV E0 58 args h = some (.enter 58 args) := by unfold callV; rw [fn58]; rfl
theorem fn59 : E0.fn 59 = some Tryz.f59 := by kernel_rfl
theorem cv59 (args : List AV) (h : AH) : callV E0 59 args h = some (.enter 59 args) := by unfold callV; rw [fn59]; rfl
theorem fn60 : E0.fn 60 = some Tryz.f60 := by kernel_rfl
theorem cv60 (args : List AV) (h : AH) : callV E0 60 args h = some (.enter 60 args) := by unfold callV; rw [fn60]; rfl
theorem fn61 : E0.fn 61 = some Tryz.f61 := by kernel_rfl
theorem cv61 (args : List AV) (h : AH) : callV E0 61 args h = some (.enter 61 args) := by unfold callV; rw [fn61]; rfl
theorem fn62 : E0.fn 62 = some Tryz.f62 := by kernel_rfl
theorem cv62 (args : List AV) (h : AH) : callV E0 62 args h = some (.enter 62 args) := by unfold callV; rw [fn62]; rfl
theorem fn63 : E0.fn 63 = some Tryz.f63 := by kernel_rfl
theorem cv63 (args : List AV) (h : AH) : callV E0 63 args h = some (.enter 63 args) := by unfold callV; rw [fn63]; rfl
theorem fn64 : E0.fn 64 = some Tryz.f64 := by kernel_rfl
theorem cv64 (args : List AV) (h : AH) : callV E0 64 args h = some (.enter 64 args) := by unfold callV; rw [fn64]; rfl
theorem fn65 : E0.fn 65 = some Tryz.f65 := by kernel_rfl
theorem cv65 (args : List AV) (h : AH) : callV E0 65 args h = some (.enter 65 args) := by unfold callV; rw [fn65]; rfl
theorem fn66 : E0.fn 66 = some Tryz.f66 := by kernel_rfl
theorem cv66 (args : List AV) (h : AH) : callV E0 66 args h = some (.enter 66 args) := by unfold callV; rw [fn66]; rfl
theorem fn67 : E0.fn 67 = some Tryz.f67 := by kernel_rfl
theorem cv67 (args : List AV) (h : AH) : callV E0 67 args h = some (.enter 67 args) := by unfold callV; rw [fn67]; rfl
theorem fn68 : E0.fn 68 = some Tryz.f68 := by kernel_rfl
theorem cv68 (args : List AV) (h : AH) : callV E0 68 args h = some (.enter 68 args) := by unfold callV; rw [fn68]; rfl
theorem fn69 : E0.fn 69 = some Tryz.f69 := by kernel_rfl
theorem cv69 (args : List AV) (h : AH) : callV E0 69 args h = some (.enter 69 args) := by unfold callV; rw [fn69]; rfl
theorem fn70 : E0.fn 70 = some Tryz.f70 := by kernel_rfl
theorem cv70 (args : List AV) (h : AH) : callV E0 70 args h = some (.enter 70 args) := by unfold callV; rw [fn70]; rfl
theorem fn71 : E0.fn 71 = some Tryz.f71 := by kernel_rfl
theorem cv71 (args : List AV) (h : AH) : callV E0 71 args h = some (.enter 71 args) := by unfold callV; rw [fn71]; rfl
theorem fn72 : E0.fn 72 = some Tryz.f72 := by kernel_rfl
theorem cv72 (args : List AV) (h : AH) : callV E0 72 args h = some (.enter 72 args) := by unfold callV; rw [fn72]; rfl
theorem fn73 : E0.fn 73 = some Tryz.f73 := by kernel_rfl
theorem cv73 (args : List AV) (h : AH) : callV E0 73 args h = some (.enter 73 args) := by unfold callV; rw [fn73]; rfl
theorem fn74 : E0.fn 74 = some Tryz.f74 := by kernel_rfl
theorem cv74 (args : List AV) (h : AH) : callV E0 74 args h = some (.enter 74 args) := by unfold callV; rw [fn74]; rfl
theorem fn75 : E0.fn 75 = some Tryz.f75 := by kernel_rfl
theorem cv75 (args : List AV) (h : AH) : callV E0 75 args h = some (.enter 75 args) := by unfold callV; rw [fn75]; rfl
theorem fn76 : E0.fn 76 = some Tryz.f76 := by kernel_rfl
theorem cv76 (args : List AV) (h : AH) : callV E0 76 args h = some (.enter 76 args) := by unfold callV; rw [fn76]; rfl
theorem fn77 : E0.fn 77 = some Tryz.f77 := by kernel_rfl
theorem cv77 (args : List AV) (h : AH) : callV E0 77 args h = some (.enter 77 args) := by unfold callV; rw [fn77]; rfl
theorem fn78 : E0.fn 78 = some Tryz.f78 := by kernel_rfl
theorem cv78 (args : List AV) (h : AH) : callV E0 78 args h = some (.enter 78 args) := by unfold callV; rw [fn78]; rfl
theorem fn79 : E0.fn 79 = some Tryz.f79 := by kernel_rfl
theorem cv79 (args : List AV) (h : AH) : callV E0 79 args h = some (.enter 79 args) := by unfold callV; rw [fn79]; rfl
theorem fn80 : E0.fn 80 = some Tryz.f80 := by kernel_rfl
theorem cv80 (args : List AV) (h : AH) : callV E0 80 args h = some (.enter 80 args) := by unfold callV; rw [fn80]; rfl
theorem fn81 : E0.fn 81 = some Tryz.f81 := by kernel_rfl
theorem cv81 (args : List AV) (h : AH) : callV E0 81 args h = some (.enter 81 args) := by unfold callV; rw [fn81]; rfl
theorem fn82 : E0.fn 82 = some Tryz.f82 := by kernel_rfl
theorem cv82 (args : List AV) (h : AH) : callV E0 82 args h = some (.enter 82 args) := by unfold callV; rw [fn82]; rfl
theorem fn83 : E0.fn 83 = some Tryz.f83 := by kernel_rfl
theorem cv83 (args : List AV) (h : AH) : callV E0 83 args h = some (.enter 83 args) := by unfold callV; rw [fn83]; rfl
theorem fn84 : E0.fn 84 = some Tryz.f84 := by kernel_rfl
theorem cv84 (args : List AV) (h : AH) : callV E0 84 args h = some (.enter 84 args) := by unfold callV; rw [fn84]; rfl
theorem fn85 : E0.fn 85 = some Tryz.f85 := by kernel_rfl
theorem cv85 (args : List AV) (h : AH) : callV E0 85 args h = some (.enter 85 args) := by unfold callV; rw [fn85]; rfl
theorem fn86 : E0.fn 86 = some Tryz.f86 := by kernel_rfl
theorem cv86 (args : List AV) (h : AH) : callV E0 86 args h = some (.enter 86 args) := by unfold callV; rw [fn86]; rfl
theorem fn87 : E0.fn 87 = some Tryz.f87 := by kernel_rfl
theorem cv87 (args : List AV) (h : AH) : callV E0 87 args h = some (.enter 87 args) := by unfold callV; rw [fn87]; rfl
theorem fn88 : E0.fn 88 = some Tryz.f88 := by kernel_rfl
theorem cv88 (args : List AV) (h : AH) : callV E0 88 args h = some (.enter 88 args) := by unfold callV; rw [fn88]; rfl
theorem fn89 : E0.fn 89 = some Tryz.f89 := by kernel_rfl
theorem cv89 (args : List AV) (h : AH) : callV E0 89 args h = some (.enter 89 args) := by unfold callV; rw [fn89]; rfl
theorem fn90 : E0.fn 90 = some Tryz.f90 := by kernel_rfl
theorem cv90 (args : List AV) (h : AH) : callV E0 90 args h = some (.enter 90 args) := by unfold callV; rw [fn90]; rfl
theorem fn91 : E0.fn 91 = some Tryz.f91 := by kernel_rfl
theorem cv91 (args : List AV) (h : AH) : callV E0 91 args h = some (.enter 91 args) := by unfold callV; rw [fn91]; rfl
theorem fn92 : E0.fn 92 = some Tryz.f92 := by kernel_rfl
theorem cv92 (args : List AV) (h : AH) : callV E0 92 args h = some (.enter 92 args) := by unfold callV; rw [fn92]; rfl
theorem fn93 : E0.fn 93 = some Tryz.f93 := by kernel_rfl
theorem cv93 (args : List AV) (h : AH) : callV E0 93 args h = some (.enter 93 args) := by unfold callV; rw [fn93]; rfl
theorem fn94 : E0.fn 94 = some Tryz.f94 := by kernel_rfl
theorem cv94 (args : List AV) (h : AH) : callV E0 94 args h = some (.enter 94 args) := by unfold callV; rw [fn94]; rfl
theorem fn97 : E0.fn 97 = some Tryz.f97 := by kernel_rfl
theorem cv97 (args : List AV) (h : AH) : callV E0 97 args h = some (.enter 97 args) := by unfold callV; rw [fn97]; rfl
theorem fn98 : E0.fn 98 = some Tryz.f98 := by kernel_rfl
theorem cv98 (args : List AV) (h : AH) : callV E0 98 args h = some (.enter 98 args) := by unfold callV; rw [fn98]; rfl
theorem fn99 : E0.fn 99 = some Tryz.f99 := by kernel_rfl
theorem cv99 (args : List AV) (h : AH) : callV E0 99 args h = some (.enter 99 args) := by unfold callV; rw [fn99]; rfl
theorem fn100 : E0.fn 100 = some Tryz.f100 := by kernel_rfl
theorem cv100 (args : List AV) (h : AH) : callV E0 100 args h = some (.enter 100 args) := by unfold callV; rw [fn100]; rfl
theorem fn101 : E0.fn 101 = some Tryz.f101 := by kernel_rfl
theorem cv101 (args : List AV) (h : AH) : callV E0 101 args h = some (.enter 101 args) := by unfold callV; rw [fn101]; rfl
theorem fn102 : E0.fn 102 = some Tryz.f102 := by kernel_rfl
theorem cv102 (args : List AV) (h : AH) : callV E0 102 args h = some (.enter 102 args) := by unfold callV; rw [fn102]; rfl
theorem fn103 : E0.fn 103 = some Tryz.f103 := by kernel_rfl
theorem cv103 (args : List AV) (h : AH) : callV E0 103 args h = some (.enter 103 args) := by unfold callV; rw [fn103]; rfl
theorem fn104 : E0.fn 104 = some Tryz.f104 := by kernel_rfl
theorem cv104 (args : List AV) (h : AH) : callV E0 104 args h = some (.enter 104 args) := by unfold callV; rw [fn104]; rfl
theorem fn105 : E0.fn 105 = some Tryz.f105 := by kernel_rfl
theorem cv105 (args : List AV) (h : AH) : callV E0 105 args h = some (.enter 105 args) := by unfold callV; rw [fn105]; rfl
theorem fn106 : E0.fn 106 = some Tryz.f106 := by kernel_rfl
theorem cv106 (args : List AV) (h : AH) : callV E0 106 args h = some (.enter 106 args) := by unfold callV; rw [fn106]; rfl
theorem fn107 : E0.fn 107 = some Tryz.f107 := by kernel_rfl
theorem cv107 (args : List AV) (h : AH) : callV E0 107 args h = some (.enter 107 args) := by unfold callV; rw [fn107]; rfl
theorem fn108 : E0.fn 108 = some Tryz.f108 := by kernel_rfl
theorem cv108 (args : List AV) (h : AH) : callV E0 108 args h = some (.enter 108 args) := by unfold callV; rw [fn108]; rfl
theorem fn109 : E0.fn 109 = some Tryz.f109 := by kernel_rfl
theorem cv109 (args : List AV) (h : AH) : callV E0 109 args h = some (.enter 109 args) := by unfold callV; rw [fn109]; rfl
theorem fn110 : E0.fn 110 = some Tryz.f110 := by kernel_rfl
theorem cv110 (args : List AV) (h : AH) : callV E0 110 args h = some (.enter 110 args) := by unfold callV; rw [fn110]; rfl
theorem fn111 : E0.fn 111 = some Tryz.f111 := by kernel_rfl
theorem cv111 (args : List AV) (h : AH) : callV E0 111 args h = some (.enter 111 args) := by unfold callV; rw [fn111]; rfl
theorem fn114 : E0.fn 114 = some Tryz.f114 := by kernel_rfl
theorem cv114 (args : List AV) (h : AH) : callV E0 114 args h = some (.enter 114 args) := by unfold callV; rw [fn114]; rfl
theorem fn115 : E0.fn 115 = some Tryz.f115 := by kernel_rfl
theorem cv115 (args : List AV) (h : AH) : callV E0 115 args h = some (.enter 115 args) := by unfold callV; rw [fn115]; rfl
theorem fn116 : E0.fn 116 = some Tryz.f116 := by kernel_rfl
theorem cv116 (args : List AV) (h : AH) : callV E0 116 args h = some (.enter 116 args) := by unfold callV; rw [fn116]; rfl
theorem fn117 : E0.fn 117 = some Tryz.f117 := by kernel_rfl
theorem cv117 (args : List AV) (h : AH) : callV E0 117 args h = some (.enter 117 args) := by unfold callV; rw [fn117]; rfl
theorem fn120 : E0.fn 120 = some Tryz.f120 := by kernel_rfl
theorem cv120 (args : List AV) (h : AH) : callV E0 120 args h = some (.enter 120 args) := by unfold callV; rw [fn120]; rfl
theorem fn128 : E0.fn 128 = some Tryz.f128 := by kernel_rfl
theorem cv128 (args : List AV) (h : AH) : callV E0 128 args h = some (.enter 128 args) := by unfold callV; rw [fn128]; rfl
theorem fn129 : E0.fn 129 = some Tryz.f129 := by kernel_rfl
theorem cv129 (args : List AV) (h : AH) : callV E0 129 args h = some (.enter 129 args) := by unfold callV; rw [fn129]; rfl
theorem fn130 : E0.fn 130 = some Tryz.f130 := by kernel_rfl
theorem cv130 (args : List AV) (h : AH) : callV E0 130 args h = some (.enter 130 args) := by unfold callV; rw [fn130]; rfl
theorem fn142 : E0.fn 142 = some Tryz.f142 := by kernel_rfl
theorem cv142 (args : List AV) (h : AH) : callV E0 142 args h = some (.enter 142 args) := by unfold callV; rw [fn142]; rfl
theorem fn143 : E0.fn 143 = some Tryz.f143 := by kernel_rfl
theorem cv143 (args : List AV) (h : AH) : callV E0 143 args h = some (.enter 143 args) := by unfold callV; rw [fn143]; rfl
theorem fn145 : E0.fn 145 = some Tryz.f145 := by kernel_rfl
theorem cv145 (args : List AV) (h : AH) : callV E0 145 args h = some (.enter 145 args) := by unfold callV; rw [fn145]; rfl
theorem fn147 : E0.fn 147 = some Tryz.f147 := by kernel_rfl
theorem cv147 (args : List AV) (h : AH) : callV E0 147 args h = some (.enter 147 args) := by unfold callV; rw [fn147]; rfl
theorem fn149 : E0.fn 149 = some Tryz.f149 := by kernel_rfl
theorem cv149 (args : List AV) (h : AH) : callV E0 149 args h = some (.enter 149 args) := by unfold callV; rw [fn149]; rfl
theorem fn153 : E0.fn 153 = some Tryz.f153 := by kernel_rfl
theorem cv153 (args : List AV) (h : AH) : callV E0 153 args h = some (.enter 153 args) := by unfold callV; rw [fn153]; rfl
theorem fn154 : E0.fn 154 = some Tryz.f154 := by kernel_rfl
theorem cv154 (args : List AV) (h : AH) : callV E0 154 args h = some (.enter 154 args) := by unfold callV; rw [fn154]; rfl
theorem fn159 : E0.fn 159 = some Tryz.f159 := by kernel_rfl
theorem cv159 (args : List AV) (h : AH) : callV E0 159 args h = some (.enter 159 args) := by unfold callV; rw [fn159]; rfl
theorem fn174 : E0.fn 174 = some Tryz.f174 := by kernel_rfl
theorem cv174 (args : List AV) (h : AH) : callV E0 174 args h = some (.enter 174 args) := by unfold callV; rw [fn174]; rfl
theorem fn177 : E0.fn 177 = some Tryz.f177 := by kernel_rfl
theorem cv177 (args : List AV) (h : AH) : callV E0 177 args h = some (.enter 177 args) := by unfold callV; rw [fn177]; rfl
theorem fn182 : E0.fn 182 = some Tryz.f182 := by kernel_rfl
theorem cv182 (args : List AV) (h : AH) : callV E0 182 args h = some (.enter 182 args) := by unfold callV; rw [fn182]; rfl
theorem fn183 : E0.fn 183 = some Tryz.f183 := by kernel_rfl
theorem cv183 (args : List AV) (h : AH) : callV E0 183 args h = some (.enter 183 args) := by unfold callV; rw [fn183]; rfl
theorem fn184 : E0.fn 184 = some Tryz.f184 := by kernel_rfl
theorem cv184 (args : List AV) (h : AH) : callV E0 184 args h = some (.enter 184 args) := by unfold callV; rw [fn184]; rfl
theorem fn194 : E0.fn 194 = some Tryz.f194 := by kernel_rfl
theorem cv194 (args : List AV) (h : AH) : callV E0 194 args h = some (.enter 194 args) := by unfold callV; rw [fn194]; rfl
theorem fn195 : E0.fn 195 = some Tryz.f195 := by kernel_rfl
theorem cv195 (args : List AV) (h : AH) : callV E0 195 args h = some (.enter 195 args) := by unfold callV; rw [fn195]; rfl
theorem fn196 : E0.fn 196 = some Tryz.f196 := by kernel_rfl
theorem cv196 (args : List AV) (h : AH) : callV E0 196 args h = some (.enter 196 args) := by unfold callV; rw [fn196]; rfl
theorem fn197 : E0.fn 197 = some Tryz.f197 := by kernel_rfl
theorem cv197 (args : List AV) (h : AH) : callV E0 197 args h = some (.enter 197 args) := by unfold callV; rw [fn197]; rfl
theorem fn198 : E0.fn 198 = some Tryz.f198 := by kernel_rfl
theorem cv198 (args : List AV) (h : AH) : callV E0 198 args h = some (.enter 198 args) := by unfold callV; rw [fn198]; rfl
theorem fn199 : E0.fn 199 = some Tryz.f199 := by kernel_rfl
theorem cv199 (args : List AV) (h : AH) : callV E0 199 args h = some (.enter 199 args) := by unfold callV; rw [fn199]; rfl
theorem fn200 : E0.fn 200 = some Tryz.f200 := by kernel_rfl
theorem cv200 (args : List AV) (h : AH) : callV E0 200 args h = some (.enter 200 args) := by unfold callV; rw [fn200]; rfl
theorem fn201 : E0.fn 201 = some Tryz.f201 := by kernel_rfl
theorem cv201 (args : List AV) (h : AH) : callV E0 201 args h = some (.enter 201 args) := by unfold callV; rw [fn201]; rfl
theorem fn202 : E0.fn 202 = some Tryz.f202 := by kernel_rfl
theorem cv202 (args : List AV) (h : AH) : callV E0 202 args h = some (.enter 202 args) := by unfold callV; rw [fn202]; rfl
theorem fn203 : E0.fn 203 = some Tryz.f203 := by kernel_rfl
theorem cv203 (args : List AV) (h : AH) : callV E0 203 args h = some (.enter 203 args) := by unfold callV; rw [fn203]; rfl
theorem fn209 : E0.fn 209 = some Tryz.f209 := by kernel_rfl
theorem cv209 (args : List AV) (h : AH) : callV E0 209 args h = some (.enter 209 args) := by unfold callV; rw [fn209]; rfl
theorem fn220 : E0.fn 220 = some Tryz.f220 := by kernel_rfl
theorem cv220 (args : List AV) (h : AH) : callV E0 220 args h = some (.enter 220 args) := by unfold callV; rw [fn220]; rfl
theorem fn229 : E0.fn 229 = some Tryz.f229 := by kernel_rfl
theorem cv229 (args : List AV) (h : AH) : callV E0 229 args h = some (.enter 229 args) := by unfold callV; rw [fn229]; rfl
theorem fn230 : E0.fn 230 = some Tryz.f230 := by kernel_rfl
theorem cv230 (args : List AV) (h : AH) : callV E0 230 args h = some (.enter 230 args) := by unfold callV; rw [fn230]; rfl
theorem fn239 : E0.fn 239 = some Tryz.f239 := by kernel_rfl
theorem cv239 (args : List AV) (h : AH) : callV E0 239 args h = some (.enter 239 args) := by unfold callV; rw [fn239]; rfl
theorem fn244 : E0.fn 244 = some Tryz.f244 := by kernel_rfl
theorem cv244 (args : List AV) (h : AH) : callV E0 244 args h = some (.enter 244 args) := by unfold callV; rw [fn244]; rfl
attribute [go_sem] ty2 ty3 ty4 ty5 ty9 ty12 ti13_und ti13_size ti13_bytes ti13_agg ti13_zero ti13_flds ti13_eqk ti13_zv ty13 ty21 ty22 ty23 ti24_und ti24_size ti24_bytes ti24_agg ti24_zero ti24_flds ti24_eqk ti24_zv ty24 ti25_und ti25_size ti25_bytes ti25_agg ti25_zero ti25_flds ti25_eqk ti25_zv ty25 ty26 ti33_und ti33_size ti33_bytes ti33_agg ti33_zero ti33_flds ti33_eqk ti33_zv ty33 ti34_und ti34_size ti34_bytes ti34_agg ti34_zero ti34_flds ti34_eqk ti34_zv ty34 ty39 ty40 ty53 ti56_und ti56_size
attribute [go_sem] ti56_bytes ti56_agg ti56_zero ti56_flds ti56_eqk ti56_zv ty56 ti57_und ti57_size ti57_bytes ti57_agg ti57_zero ti57_flds ti57_eqk ti57_zv ty57 ty61 ty68 ty79 ti81_und ti81_size ti81_bytes ti81_agg ti81_zero ti81_flds ti81_eqk ti81_zv ty81 ti82_und ti82_size ti82_bytes ti82_agg ti82_zero ti82_flds ti82_eqk ti82_zv ty82 ty86 ty93 ty98 ty103 ty104 ti105_und ti105_size ti105_bytes ti105_agg ti105_zero ti105_flds ti105_eqk ti105_zv ty105 ti106_und ti106_size ti106_bytes ti106_agg ti106_zero ti106_flds ti106_eqk ti106_zv ty106
attribute [go_sem] ty108 ti109_und ti109_size ti109_bytes ti109_agg ti109_zero ti109_flds ti109_eqk ti109_zv ty109 ti110_und ti110_size ti110_bytes ti110_agg ti110_zero ti110_flds ti110_eqk ti110_zv ty110 ty115 ty118 ty122 ty123 ty139 ti140_und ti140_size ti140_bytes ti140_agg ti140_zero ti140_flds ti140_eqk ti140_zv ty140 ti141_und ti141_size ti141_bytes ti141_agg ti141_zero ti141_flds ti141_eqk ti141_zv ty141 ti146_und ti146_size ti146_bytes ti146_agg ti146_zero ti146_flds ti146_eqk ti146_zv ty146 ti147_und ti147_size ti147_bytes ti147_agg ti147_zero ti147_flds ti147_eqk ti147_zv ty147
attribute [go_sem] ty163 ty165 ty166 ti167_und ti167_size ti167_bytes ti167_agg ti167_zero ti167_flds ti167_eqk ti167_zv ty167 ti168_und ti168_size ti168_bytes ti168_agg ti168_zero ti168_flds ti168_eqk ti168_zv ty168 ti182_und ti182_size ti182_bytes ti182_agg ti182_zero ti182_flds ti182_eqk ti182_zv ty182 ty195 ty197 cv3 cv4 cv5 cv6 cv7 cv8 cv9 cv10 cv11 cv12 cv13 cv14 cv15 cv16 cv17 cv18 cv19 cv20 cv21 cv22 cv23 cv24 cv25 cv26 cv27 cv28 cv29 cv30
attribute [go_sem] cv31 cv32 cv33 cv34 cv35 cv36 cv37 cv38 cv39 cv40 cv41 cv42 cv43 cv44 cv45 cv46 cv47 cv48 cv49 cv50 cv51 cv52 cv53 cv54 cv55 cv56 cv57 cv58 cv59 cv60 cv61 cv62 cv63 cv64 cv65 cv66 cv67 cv68 cv69 cv70 cv71 cv72 cv73 cv74 cv75 cv76 cv77 cv78 cv79 cv80 cv81 cv82 cv83 cv84 cv85 cv86 cv87 cv88 cv89 cv90
attribute [go_sem] cv91 cv92 cv93 cv94 cv97 cv98 cv99 cv100 cv101 cv102 cv103 cv104 cv105 cv106 cv107 cv108 cv109 cv110 cv111 cv114 cv115 cv116 cv117 cv120 cv128 cv129 cv130 cv142 cv143 cv145 cv147 cv149 cv153 cv154 cv159 cv174 cv177 cv182 cv183 cv184 cv194 cv195 cv196 cv197 cv198 cv199 cv200 cv201 cv202 cv203 cv209 cv220 cv229 cv230 cv239 cv244
end Go.Ev
