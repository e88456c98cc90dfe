/- The types of the program, as the abstract layer asks of them. No condition. -/
import Derived.Test.YteipiejlljnclaaGreatDoorProg
import Derived.Test.YteipiejlljnclaaGreatDoorRAa
import Derived.KernelRfl
namespace Go.Proofs.YteipiejlljnclaaGreatDoor
open Go Go.AL
@[go_sem] theorem ty2 : tyOf Tryz.prog 2 = { ok := true, k := TK.int IntKind.i64, size := 1, bytes := 8, zero := AV.sc (Value.int IntKind.i64 0), slcs := [] } := by kernel_rfl
@[go_sem] theorem sz2 : Go.AL.sizeOf Tryz.prog 2 = some 1 := by kernel_rfl
@[go_sem] theorem kk2 : kkOf Tryz.prog 2 = .int .i64 := by kernel_rfl
@[go_sem] theorem ty3 : tyOf Tryz.prog 3 = { ok := true, k := TK.int IntKind.i64, size := 1, bytes := 8, zero := AV.sc (Value.int IntKind.i64 0), slcs := [] } := by kernel_rfl
@[go_sem] theorem sz3 : Go.AL.sizeOf Tryz.prog 3 = some 1 := by kernel_rfl
@[go_sem] theorem kk3 : kkOf Tryz.prog 3 = .int .i64 := by kernel_rfl
@[go_sem] theorem ty4 : tyOf Tryz.prog 4 = { ok := true, k := TK.bool, size := 1, bytes := 1, zero := AV.sc (Value.bool false), slcs := [] } := by kernel_rfl
@[go_sem] theorem sz4 : Go.AL.sizeOf Tryz.prog 4 = some 1 := by kernel_rfl
@[go_sem] theorem ty5 : tyOf Tryz.prog 5 = { ok := true, k := TK.int IntKind.u8, size := 1, bytes := 1, zero := AV.sc (Value.int IntKind.u8 0), slcs := [] } := by kernel_rfl
@[go_sem] theorem sz5 : Go.AL.sizeOf Tryz.prog 5 = some 1 := by kernel_rfl
@[go_sem] theorem kk5 : kkOf Tryz.prog 5 = .int .u8 := by kernel_rfl
@[go_sem] theorem ty9 : tyOf Tryz.prog 9 = { ok := true, k := TK.str, size := 1, bytes := 16, zero := AV.sc (Value.string { data := #[] }), slcs := [] } := by kernel_rfl
@[go_sem] theorem sz9 : Go.AL.sizeOf Tryz.prog 9 = some 1 := by kernel_rfl
@[go_sem] theorem kk9 : kkOf Tryz.prog 9 = .str := by kernel_rfl
@[go_sem] theorem ty20 : tyOf Tryz.prog 20 = { ok := true, k := TK.other, size := 1, bytes := 16, zero := AV.sc Value.nilIface, slcs := [] } := by kernel_rfl
@[go_sem] theorem sz20 : Go.AL.sizeOf Tryz.prog 20 = some 1 := by kernel_rfl
@[go_sem] theorem ty22 : tyOf Tryz.prog 22 = { ok := true, k := TK.slice 3, size := 1, bytes := 24, zero := AV.nil, slcs := [(0, 1)] } := by kernel_rfl
@[go_sem] theorem sz22 : Go.AL.sizeOf Tryz.prog 22 = some 1 := by kernel_rfl
@[go_sem] theorem ty23 : tyOf Tryz.prog 23 = { ok := true, k := TK.slice 46, size := 1, bytes := 24, zero := AV.nil, slcs := [(0, 3)] } := by kernel_rfl
@[go_sem] theorem sz23 : Go.AL.sizeOf Tryz.prog 23 = some 1 := by kernel_rfl
@[go_sem] theorem ty25 : tyOf Tryz.prog 25 = { ok := true, k := TK.struct [(0, 23)], size := 1, bytes := 24, zero := AV.agg [AV.nil], slcs := [(0, 3)] } := by kernel_rfl
@[go_sem] theorem sz25 : Go.AL.sizeOf Tryz.prog 25 = some 1 := by kernel_rfl
@[go_sem] theorem ty26 : tyOf Tryz.prog 26 = { ok := true, k := TK.slice 57, size := 1, bytes := 24, zero := AV.nil, slcs := [(0, 10)] } := by kernel_rfl
@[go_sem] theorem sz26 : Go.AL.sizeOf Tryz.prog 26 = some 1 := by kernel_rfl
@[go_sem] theorem ty29 : tyOf Tryz.prog 29 = { ok := true, k := TK.ptr 79, size := 1, bytes := 8, zero := AV.sc (Value.pointer none), slcs := [] } := by kernel_rfl
@[go_sem] theorem sz29 : Go.AL.sizeOf Tryz.prog 29 = some 1 := by kernel_rfl
@[go_sem] theorem ty31 : tyOf Tryz.prog 31 = { ok := true, k := TK.slice 39, size := 1, bytes := 24, zero := AV.nil, slcs := [(0, 1)] } := by kernel_rfl
@[go_sem] theorem sz31 : Go.AL.sizeOf Tryz.prog 31 = some 1 := by kernel_rfl
@[go_sem] theorem ty32 : tyOf Tryz.prog 32 = { ok := true, k := TK.int IntKind.i64, size := 1, bytes := 8, zero := AV.sc (Value.int IntKind.i64 0), slcs := [] } := by kernel_rfl
@[go_sem] theorem sz32 : Go.AL.sizeOf Tryz.prog 32 = some 1 := by kernel_rfl
@[go_sem] theorem kk32 : kkOf Tryz.prog 32 = .int .i64 := by kernel_rfl
@[go_sem] theorem ty38 : tyOf Tryz.prog 38 = { ok := true, k := TK.slice 94, size := 1, bytes := 24, zero := AV.nil, slcs := [(0, 11)] } := by kernel_rfl
@[go_sem] theorem sz38 : Go.AL.sizeOf Tryz.prog 38 = some 1 := by kernel_rfl
@[go_sem] theorem ty39 : tyOf Tryz.prog 39 = { ok := true, k := TK.slice 94, size := 1, bytes := 24, zero := AV.nil, slcs := [(0, 11)] } := by kernel_rfl
@[go_sem] theorem sz39 : Go.AL.sizeOf Tryz.prog 39 = some 1 := by kernel_rfl
@[go_sem] theorem ty46 : tyOf Tryz.prog 46 = { ok := true, k := TK.struct [(0, 3), (1, 3), (2, 22)], size := 3, bytes := 40, zero := AV.agg [AV.sc (Value.int IntKind.i64 0), AV.sc (Value.int IntKind.i64 0), AV.nil], slcs := [(2, 1)] } := by kernel_rfl
@[go_sem] theorem sz46 : Go.AL.sizeOf Tryz.prog 46 = some 3 := by kernel_rfl
@[go_sem] theorem ty47 : tyOf Tryz.prog 47 = { ok := true, k := TK.other, size := 1, bytes := 8, zero := AV.sc Value.nilFunc, slcs := [] } := by kernel_rfl
@[go_sem] theorem sz47 : Go.AL.sizeOf Tryz.prog 47 = some 1 := by kernel_rfl
@[go_sem] theorem ty49 : tyOf Tryz.prog 49 = { ok := true, k := TK.other, size := 1, bytes := 8, zero := AV.sc Value.nilFunc, slcs := [] } := by kernel_rfl
@[go_sem] theorem sz49 : Go.AL.sizeOf Tryz.prog 49 = some 1 := by kernel_rfl
@[go_sem] theorem ty53 : tyOf Tryz.prog 53 = { ok := true, k := TK.slice 134, size := 1, bytes := 24, zero := AV.nil, slcs := [(0, 1)] } := by kernel_rfl
@[go_sem] theorem sz53 : Go.AL.sizeOf Tryz.prog 53 = some 1 := by kernel_rfl
@[go_sem] theorem ty55 : tyOf Tryz.prog 55 = { ok := true, k := TK.struct [(0, 4), (1, 53), (2, 53)], size := 3, bytes := 56, zero := AV.agg [AV.sc (Value.bool false), AV.nil, AV.nil], slcs := [(1, 1), (2, 1)] } := by kernel_rfl
@[go_sem] theorem sz55 : Go.AL.sizeOf Tryz.prog 55 = some 3 := by kernel_rfl
@[go_sem] theorem ty57 : tyOf Tryz.prog 57 = { ok := true, k := TK.struct [(0, 3), (1, 3), (2, 3), (3, 31), (4, 55), (7, 55)], size := 10, bytes := 160, zero := AV.agg [AV.sc (Value.int IntKind.i64 0), AV.sc (Value.int IntKind.i64 0), AV.sc (Value.int IntKind.i64 0), AV.nil, AV.sc (Value.bool false), AV.nil, AV.nil, AV.sc (Value.bool false), AV.nil, AV.nil], slcs := [(3, 1), (5, 1), (6, 1), (8, 1), (9, 1)] } := by kernel_rfl
@[go_sem] theorem sz57 : Go.AL.sizeOf Tryz.prog 57 = some 10 := by kernel_rfl
@[go_sem] theorem ty75 : tyOf Tryz.prog 75 = { ok := true, k := TK.other, size := 1, bytes := 8, zero := AV.sc Value.nilFunc, slcs := [] } := by kernel_rfl
@[go_sem] theorem sz75 : Go.AL.sizeOf Tryz.prog 75 = some 1 := by kernel_rfl
@[go_sem] theorem ty79 : tyOf Tryz.prog 79 = { ok := true, k := TK.struct [(0, 22), (1, 3), (2, 3)], size := 3, bytes := 40, zero := AV.agg [AV.nil, AV.sc (Value.int IntKind.i64 0), AV.sc (Value.int IntKind.i64 0)], slcs := [(0, 1)] } := by kernel_rfl
@[go_sem] theorem sz79 : Go.AL.sizeOf Tryz.prog 79 = some 3 := by kernel_rfl
@[go_sem] theorem ty87 : tyOf Tryz.prog 87 = { ok := true, k := TK.slice 25, size := 1, bytes := 24, zero := AV.nil, slcs := [(0, 1)] } := by kernel_rfl
@[go_sem] theorem sz87 : Go.AL.sizeOf Tryz.prog 87 = some 1 := by kernel_rfl
@[go_sem] theorem ty92 : tyOf Tryz.prog 92 = { ok := true, k := TK.arr 8 3, size := 8, bytes := 64, zero := AV.agg [AV.sc (Value.int IntKind.i64 0), AV.sc (Value.int IntKind.i64 0), AV.sc (Value.int IntKind.i64 0), AV.sc (Value.int IntKind.i64 0), AV.sc (Value.int IntKind.i64 0), AV.sc (Value.int IntKind.i64 0), AV.sc (Value.int IntKind.i64 0), AV.sc (Value.int IntKind.i64 0)], slcs := [] } := by kernel_rfl
@[go_sem] theorem sz92 : Go.AL.sizeOf Tryz.prog 92 = some 8 := by kernel_rfl
@[go_sem] theorem kk92 : kkOf Tryz.prog 92 = .arr 8 .i64 := by kernel_rfl
@[go_sem] theorem ty94 : tyOf Tryz.prog 94 = { ok := true, k := TK.struct [(0, 92), (8, 55)], size := 11, bytes := 120, zero := AV.agg [AV.sc (Value.int IntKind.i64 0), AV.sc (Value.int IntKind.i64 0), AV.sc (Value.int IntKind.i64 0), AV.sc (Value.int IntKind.i64 0), AV.sc (Value.int IntKind.i64 0), AV.sc (Value.int IntKind.i64 0), AV.sc (Value.int IntKind.i64 0), AV.sc (Value.int IntKind.i64 0), AV.sc (Value.bool false), AV.nil, AV.nil], slcs := [(9, 1), (10, 1)] } := by kernel_rfl
@[go_sem] theorem sz94 : Go.AL.sizeOf Tryz.prog 94 = some 11 := by kernel_rfl
@[go_sem] theorem ty100 : tyOf Tryz.prog 100 = { ok := true, k := TK.ptr 171, size := 1, bytes := 8, zero := AV.sc (Value.pointer none), slcs := [] } := by kernel_rfl
@[go_sem] theorem sz100 : Go.AL.sizeOf Tryz.prog 100 = some 1 := by kernel_rfl
@[go_sem] theorem ty129 : tyOf Tryz.prog 129 = { ok := true, k := TK.other, size := 1, bytes := 8, zero := AV.sc Value.nilFunc, slcs := [] } := by kernel_rfl
@[go_sem] theorem sz129 : Go.AL.sizeOf Tryz.prog 129 = some 1 := by kernel_rfl
@[go_sem] theorem ty134 : tyOf Tryz.prog 134 = { ok := true, k := TK.int IntKind.u32, size := 1, bytes := 4, zero := AV.sc (Value.int IntKind.u32 0), slcs := [] } := by kernel_rfl
@[go_sem] theorem sz134 : Go.AL.sizeOf Tryz.prog 134 = some 1 := by kernel_rfl
@[go_sem] theorem kk134 : kkOf Tryz.prog 134 = .int .u32 := by kernel_rfl
@[go_sem] theorem ty143 : tyOf Tryz.prog 143 = { ok := true, k := TK.struct [(0, 4)], size := 1, bytes := 1, zero := AV.agg [AV.sc (Value.bool false)], slcs := [] } := by kernel_rfl
@[go_sem] theorem sz143 : Go.AL.sizeOf Tryz.prog 143 = some 1 := by kernel_rfl
@[go_sem] theorem ty145 : tyOf Tryz.prog 145 = { ok := true, k := TK.struct [(0, 53), (1, 53)], size := 2, bytes := 48, zero := AV.agg [AV.nil, AV.nil], slcs := [(0, 1), (1, 1)] } := by kernel_rfl
@[go_sem] theorem sz145 : Go.AL.sizeOf Tryz.prog 145 = some 2 := by kernel_rfl
@[go_sem] theorem ty147 : tyOf Tryz.prog 147 = { ok := true, k := TK.struct [(0, 143), (1, 145)], size := 3, bytes := 56, zero := AV.agg [AV.sc (Value.bool false), AV.nil, AV.nil], slcs := [(1, 1), (2, 1)] } := by kernel_rfl
@[go_sem] theorem sz147 : Go.AL.sizeOf Tryz.prog 147 = some 3 := by kernel_rfl
@[go_sem] theorem ty153 : tyOf Tryz.prog 153 = { ok := true, k := TK.map 3 3, size := 1, bytes := 8, zero := AV.sc (Value.map none), slcs := [] } := by kernel_rfl
@[go_sem] theorem sz153 : Go.AL.sizeOf Tryz.prog 153 = some 1 := by kernel_rfl
@[go_sem] theorem ty167 : tyOf Tryz.prog 167 = { ok := true, k := TK.other, size := 1, bytes := 8, zero := AV.sc Value.nilFunc, slcs := [] } := by kernel_rfl
@[go_sem] theorem sz167 : Go.AL.sizeOf Tryz.prog 167 = some 1 := by kernel_rfl
@[go_sem] theorem ty169 : tyOf Tryz.prog 169 = { ok := true, k := TK.map 9 3, size := 1, bytes := 8, zero := AV.sc (Value.map none), slcs := [] } := by kernel_rfl
@[go_sem] theorem sz169 : Go.AL.sizeOf Tryz.prog 169 = some 1 := by kernel_rfl
@[go_sem] theorem ty171 : tyOf Tryz.prog 171 = { ok := true, k := TK.struct [(0, 23), (1, 169)], size := 2, bytes := 32, zero := AV.agg [AV.nil, AV.sc (Value.map none)], slcs := [(0, 3)] } := by kernel_rfl
@[go_sem] theorem sz171 : Go.AL.sizeOf Tryz.prog 171 = some 2 := by kernel_rfl
@[go_sem] theorem ty174 : tyOf Tryz.prog 174 = { ok := true, k := TK.struct [(0, 3), (1, 3)], size := 2, bytes := 16, zero := AV.agg [AV.sc (Value.int IntKind.i64 0), AV.sc (Value.int IntKind.i64 0)], slcs := [] } := by kernel_rfl
@[go_sem] theorem sz174 : Go.AL.sizeOf Tryz.prog 174 = some 2 := by kernel_rfl
@[go_sem] theorem ty175 : tyOf Tryz.prog 175 = { ok := true, k := TK.slice 174, size := 1, bytes := 24, zero := AV.nil, slcs := [(0, 2)] } := by kernel_rfl
@[go_sem] theorem sz175 : Go.AL.sizeOf Tryz.prog 175 = some 1 := by kernel_rfl
@[go_sem] theorem ty176 : tyOf Tryz.prog 176 = { ok := true, k := TK.ptr 174, size := 1, bytes := 8, zero := AV.sc (Value.pointer none), slcs := [] } := by kernel_rfl
@[go_sem] theorem sz176 : Go.AL.sizeOf Tryz.prog 176 = some 1 := by kernel_rfl
@[go_sem] theorem ty212 : tyOf Tryz.prog 212 = { ok := true, k := TK.arr 2 3, size := 2, bytes := 16, zero := AV.agg [AV.sc (Value.int IntKind.i64 0), AV.sc (Value.int IntKind.i64 0)], slcs := [] } := by kernel_rfl
@[go_sem] theorem sz212 : Go.AL.sizeOf Tryz.prog 212 = some 2 := by kernel_rfl
@[go_sem] theorem kk212 : kkOf Tryz.prog 212 = .arr 2 .i64 := by kernel_rfl
@[go_sem] theorem ty213 : tyOf Tryz.prog 213 = { ok := true, k := TK.map 212 3, size := 1, bytes := 8, zero := AV.sc (Value.map none), slcs := [] } := by kernel_rfl
@[go_sem] theorem sz213 : Go.AL.sizeOf Tryz.prog 213 = some 1 := by kernel_rfl
@[go_sem] theorem ty217 : tyOf Tryz.prog 217 = { ok := true, k := TK.int IntKind.u64, size := 1, bytes := 8, zero := AV.sc (Value.int IntKind.u64 0), slcs := [] } := by kernel_rfl
@[go_sem] theorem sz217 : Go.AL.sizeOf Tryz.prog 217 = some 1 := by kernel_rfl
@[go_sem] theorem kk217 : kkOf Tryz.prog 217 = .int .u64 := by kernel_rfl
@[go_sem] theorem ty218 : tyOf Tryz.prog 218 = { ok := true, k := TK.int IntKind.u64, size := 1, bytes := 8, zero := AV.sc (Value.int IntKind.u64 0), slcs := [] } := by kernel_rfl
@[go_sem] theorem sz218 : Go.AL.sizeOf Tryz.prog 218 = some 1 := by kernel_rfl
@[go_sem] theorem kk218 : kkOf Tryz.prog 218 = .int .u64 := by kernel_rfl
@[go_sem] theorem ty223 : tyOf Tryz.prog 223 = { ok := true, k := TK.map 92 55, size := 1, bytes := 8, zero := AV.sc (Value.map none), slcs := [] } := by kernel_rfl
@[go_sem] theorem sz223 : Go.AL.sizeOf Tryz.prog 223 = some 1 := by kernel_rfl
@[go_sem] theorem ty224 : tyOf Tryz.prog 224 = { ok := true, k := TK.slice 92, size := 1, bytes := 24, zero := AV.nil, slcs := [(0, 8)] } := by kernel_rfl
@[go_sem] theorem sz224 : Go.AL.sizeOf Tryz.prog 224 = some 1 := by kernel_rfl
@[go_sem] theorem ty227 : tyOf Tryz.prog 227 = { ok := true, k := TK.other, size := 1, bytes := 8, zero := AV.sc Value.nilFunc, slcs := [] } := by kernel_rfl
@[go_sem] theorem sz227 : Go.AL.sizeOf Tryz.prog 227 = some 1 := by kernel_rfl
@[go_sem] theorem ty229 : tyOf Tryz.prog 229 = { ok := true, k := TK.struct [(0, 4)], size := 1, bytes := 1, zero := AV.agg [AV.sc (Value.bool false)], slcs := [] } := by kernel_rfl
@[go_sem] theorem sz229 : Go.AL.sizeOf Tryz.prog 229 = some 1 := by kernel_rfl
@[go_sem] theorem ty230 : tyOf Tryz.prog 230 = { ok := true, k := TK.map 92 3, size := 1, bytes := 8, zero := AV.sc (Value.map none), slcs := [] } := by kernel_rfl
@[go_sem] theorem sz230 : Go.AL.sizeOf Tryz.prog 230 = some 1 := by kernel_rfl
@[go_sem] theorem ty232 : tyOf Tryz.prog 232 = { ok := true, k := TK.other, size := 1, bytes := 8, zero := AV.sc Value.nilFunc, slcs := [] } := by kernel_rfl
@[go_sem] theorem sz232 : Go.AL.sizeOf Tryz.prog 232 = some 1 := by kernel_rfl
@[go_sem] theorem ty234 : tyOf Tryz.prog 234 = { ok := true, k := TK.struct [(0, 3)], size := 1, bytes := 8, zero := AV.agg [AV.sc (Value.int IntKind.i64 0)], slcs := [] } := by kernel_rfl
@[go_sem] theorem sz234 : Go.AL.sizeOf Tryz.prog 234 = some 1 := by kernel_rfl
@[go_sem] theorem ty242 : tyOf Tryz.prog 242 = { ok := true, k := TK.slice 5, size := 1, bytes := 24, zero := AV.nil, slcs := [(0, 1)] } := by kernel_rfl
@[go_sem] theorem sz242 : Go.AL.sizeOf Tryz.prog 242 = some 1 := by kernel_rfl
@[go_sem] theorem ty307 : tyOf Tryz.prog 307 = { ok := true, k := TK.int IntKind.i64, size := 1, bytes := 8, zero := AV.sc (Value.int IntKind.i64 0), slcs := [] } := by kernel_rfl
@[go_sem] theorem sz307 : Go.AL.sizeOf Tryz.prog 307 = some 1 := by kernel_rfl
@[go_sem] theorem kk307 : kkOf Tryz.prog 307 = .int .i64 := by kernel_rfl
@[go_sem] theorem ty333 : tyOf Tryz.prog 333 = { ok := true, k := TK.int IntKind.u64, size := 1, bytes := 8, zero := AV.sc (Value.int IntKind.u64 0), slcs := [] } := by kernel_rfl
@[go_sem] theorem sz333 : Go.AL.sizeOf Tryz.prog 333 = some 1 := by kernel_rfl
@[go_sem] theorem kk333 : kkOf Tryz.prog 333 = .int .u64 := by kernel_rfl
@[go_sem] theorem ty337 : tyOf Tryz.prog 337 = { ok := true, k := TK.ptr 3, size := 1, bytes := 8, zero := AV.sc (Value.pointer none), slcs := [] } := by kernel_rfl
@[go_sem] theorem sz337 : Go.AL.sizeOf Tryz.prog 337 = some 1 := by kernel_rfl
@[go_sem] theorem ty340 : tyOf Tryz.prog 340 = { ok := true, k := TK.other, size := 1, bytes := 16, zero := AV.sc Value.nilIface, slcs := [] } := by kernel_rfl
@[go_sem] theorem sz340 : Go.AL.sizeOf Tryz.prog 340 = some 1 := by kernel_rfl
@[go_sem] theorem ty344 : tyOf Tryz.prog 344 = { ok := true, k := TK.arr 24 5, size := 24, bytes := 24, zero := AV.agg [AV.sc (Value.int IntKind.u8 0), AV.sc (Value.int IntKind.u8 0), AV.sc (Value.int IntKind.u8 0), AV.sc (Value.int IntKind.u8 0), AV.sc (Value.int IntKind.u8 0), AV.sc (Value.int IntKind.u8 0), AV.sc (Value.int IntKind.u8 0), AV.sc (Value.int IntKind.u8 0), AV.sc (Value.int IntKind.u8 0), AV.sc (Value.int IntKind.u8 0), AV.sc (Value.int IntKind.u8 0), AV.sc (Value.int IntKind.u8 0), AV.sc (Value.int IntKind.u8 0), AV.sc (Value.int IntKind.u8 0), AV.sc (Value.int IntKind.u8 0), AV.sc (Value.int IntKind.u8 0), AV.sc (Value.int IntKind.u8 0), AV.sc (Value.int IntKind.u8 0), AV.sc (Value.int IntKind.u8 0), AV.sc (Value.int IntKind.u8 0), AV.sc (Value.int IntKind.u8 0), AV.sc (Value.int IntKind.u8 0), AV.sc (Value.int IntKind.u8 0), AV.sc (Value.int IntKind.u8 0)], slcs := [] } := by kernel_rfl
@[go_sem] theorem sz344 : Go.AL.sizeOf Tryz.prog 344 = some 24 := by kernel_rfl
@[go_sem] theorem ty353 : tyOf Tryz.prog 353 = { ok := true, k := TK.ptr 333, size := 1, bytes := 8, zero := AV.sc (Value.pointer none), slcs := [] } := by kernel_rfl
@[go_sem] theorem sz353 : Go.AL.sizeOf Tryz.prog 353 = some 1 := by kernel_rfl
@[go_sem] theorem ty356 : tyOf Tryz.prog 356 = { ok := true, k := TK.arr 20 218, size := 20, bytes := 160, zero := AV.agg [AV.sc (Value.int IntKind.u64 0), AV.sc (Value.int IntKind.u64 0), AV.sc (Value.int IntKind.u64 0), AV.sc (Value.int IntKind.u64 0), AV.sc (Value.int IntKind.u64 0), AV.sc (Value.int IntKind.u64 0), AV.sc (Value.int IntKind.u64 0), AV.sc (Value.int IntKind.u64 0), AV.sc (Value.int IntKind.u64 0), AV.sc (Value.int IntKind.u64 0), AV.sc (Value.int IntKind.u64 0), AV.sc (Value.int IntKind.u64 0), AV.sc (Value.int IntKind.u64 0), AV.sc (Value.int IntKind.u64 0), AV.sc (Value.int IntKind.u64 0), AV.sc (Value.int IntKind.u64 0), AV.sc (Value.int IntKind.u64 0), AV.sc (Value.int IntKind.u64 0), AV.sc (Value.int IntKind.u64 0), AV.sc (Value.int IntKind.u64 0)], slcs := [] } := by kernel_rfl
@[go_sem] theorem sz356 : Go.AL.sizeOf Tryz.prog 356 = some 20 := by kernel_rfl
@[go_sem] theorem ty357 : tyOf Tryz.prog 357 = { ok := true, k := TK.arr 65 5, size := 65, bytes := 65, zero := AV.agg [AV.sc (Value.int IntKind.u8 0), AV.sc (Value.int IntKind.u8 0), AV.sc (Value.int IntKind.u8 0), AV.sc (Value.int IntKind.u8 0), AV.sc (Value.int IntKind.u8 0), AV.sc (Value.int IntKind.u8 0), AV.sc (Value.int IntKind.u8 0), AV.sc (Value.int IntKind.u8 0), AV.sc (Value.int IntKind.u8 0), AV.sc (Value.int IntKind.u8 0), AV.sc (Value.int IntKind.u8 0), AV.sc (Value.int IntKind.u8 0), AV.sc (Value.int IntKind.u8 0), AV.sc (Value.int IntKind.u8 0), AV.sc (Value.int IntKind.u8 0), AV.sc (Value.int IntKind.u8 0), AV.sc (Value.int IntKind.u8 0), AV.sc (Value.int IntKind.u8 0), AV.sc (Value.int IntKind.u8 0), AV.sc (Value.int IntKind.u8 0), AV.sc (Value.int IntKind.u8 0), AV.sc (Value.int IntKind.u8 0), AV.sc (Value.int IntKind.u8 0), AV.sc (Value.int IntKind.u8 0), AV.sc (Value.int IntKind.u8 0), AV.sc (Value.int IntKind.u8 0), AV.sc (Value.int IntKind.u8 0), AV.sc (Value.int IntKind.u8 0), AV.sc (Value.int IntKind.u8 0), AV.sc (Value.int IntKind.u8 0), AV.sc (Value.int IntKind.u8 0), AV.sc (Value.int IntKind.u8 0), AV.sc (Value.int IntKind.u8 0), AV.sc (Value.int IntKind.u8 0), AV.sc (Value.int IntKind.u8 0), AV.sc (Value.int IntKind.u8 0), AV.sc (Value.int IntKind.u8 0), AV.sc (Value.int IntKind.u8 0), AV.sc (Value.int IntKind.u8 0), AV.sc (Value.int IntKind.u8 0), AV.sc (Value.int IntKind.u8 0), AV.sc (Value.int IntKind.u8 0), AV.sc (Value.int IntKind.u8 0), AV.sc (Value.int IntKind.u8 0), AV.sc (Value.int IntKind.u8 0), AV.sc (Value.int IntKind.u8 0), AV.sc (Value.int IntKind.u8 0), AV.sc (Value.int IntKind.u8 0), AV.sc (Value.int IntKind.u8 0), AV.sc (Value.int IntKind.u8 0), AV.sc (Value.int IntKind.u8 0), AV.sc (Value.int IntKind.u8 0), AV.sc (Value.int IntKind.u8 0), AV.sc (Value.int IntKind.u8 0), AV.sc (Value.int IntKind.u8 0), AV.sc (Value.int IntKind.u8 0), AV.sc (Value.int IntKind.u8 0), AV.sc (Value.int IntKind.u8 0), AV.sc (Value.int IntKind.u8 0), AV.sc (Value.int IntKind.u8 0), AV.sc (Value.int IntKind.u8 0), AV.sc (Value.int IntKind.u8 0), AV.sc (Value.int IntKind.u8 0), AV.sc (Value.int IntKind.u8 0), AV.sc (Value.int IntKind.u8 0)], slcs := [] } := by kernel_rfl
@[go_sem] theorem sz357 : Go.AL.sizeOf Tryz.prog 357 = some 65 := by kernel_rfl
@[go_sem] theorem ty361 : tyOf Tryz.prog 361 = { ok := true, k := TK.arr 32 5, size := 32, bytes := 32, zero := AV.agg [AV.sc (Value.int IntKind.u8 0), AV.sc (Value.int IntKind.u8 0), AV.sc (Value.int IntKind.u8 0), AV.sc (Value.int IntKind.u8 0), AV.sc (Value.int IntKind.u8 0), AV.sc (Value.int IntKind.u8 0), AV.sc (Value.int IntKind.u8 0), AV.sc (Value.int IntKind.u8 0), AV.sc (Value.int IntKind.u8 0), AV.sc (Value.int IntKind.u8 0), AV.sc (Value.int IntKind.u8 0), AV.sc (Value.int IntKind.u8 0), AV.sc (Value.int IntKind.u8 0), AV.sc (Value.int IntKind.u8 0), AV.sc (Value.int IntKind.u8 0), AV.sc (Value.int IntKind.u8 0), AV.sc (Value.int IntKind.u8 0), AV.sc (Value.int IntKind.u8 0), AV.sc (Value.int IntKind.u8 0), AV.sc (Value.int IntKind.u8 0), AV.sc (Value.int IntKind.u8 0), AV.sc (Value.int IntKind.u8 0), AV.sc (Value.int IntKind.u8 0), AV.sc (Value.int IntKind.u8 0), AV.sc (Value.int IntKind.u8 0), AV.sc (Value.int IntKind.u8 0), AV.sc (Value.int IntKind.u8 0), AV.sc (Value.int IntKind.u8 0), AV.sc (Value.int IntKind.u8 0), AV.sc (Value.int IntKind.u8 0), AV.sc (Value.int IntKind.u8 0), AV.sc (Value.int IntKind.u8 0)], slcs := [] } := by kernel_rfl
@[go_sem] theorem sz361 : Go.AL.sizeOf Tryz.prog 361 = some 32 := by kernel_rfl
@[go_sem] theorem ty362 : tyOf Tryz.prog 362 = { ok := true, k := TK.arr 64 5, size := 64, bytes := 64, zero := AV.agg [AV.sc (Value.int IntKind.u8 0), AV.sc (Value.int IntKind.u8 0), AV.sc (Value.int IntKind.u8 0), AV.sc (Value.int IntKind.u8 0), AV.sc (Value.int IntKind.u8 0), AV.sc (Value.int IntKind.u8 0), AV.sc (Value.int IntKind.u8 0), AV.sc (Value.int IntKind.u8 0), AV.sc (Value.int IntKind.u8 0), AV.sc (Value.int IntKind.u8 0), AV.sc (Value.int IntKind.u8 0), AV.sc (Value.int IntKind.u8 0), AV.sc (Value.int IntKind.u8 0), AV.sc (Value.int IntKind.u8 0), AV.sc (Value.int IntKind.u8 0), AV.sc (Value.int IntKind.u8 0), AV.sc (Value.int IntKind.u8 0), AV.sc (Value.int IntKind.u8 0), AV.sc (Value.int IntKind.u8 0), AV.sc (Value.int IntKind.u8 0), AV.sc (Value.int IntKind.u8 0), AV.sc (Value.int IntKind.u8 0), AV.sc (Value.int IntKind.u8 0), AV.sc (Value.int IntKind.u8 0), AV.sc (Value.int IntKind.u8 0), AV.sc (Value.int IntKind.u8 0), AV.sc (Value.int IntKind.u8 0), AV.sc (Value.int IntKind.u8 0), AV.sc (Value.int IntKind.u8 0), AV.sc (Value.int IntKind.u8 0), AV.sc (Value.int IntKind.u8 0), AV.sc (Value.int IntKind.u8 0), AV.sc (Value.int IntKind.u8 0), AV.sc (Value.int IntKind.u8 0), AV.sc (Value.int IntKind.u8 0), AV.sc (Value.int IntKind.u8 0), AV.sc (Value.int IntKind.u8 0), AV.sc (Value.int IntKind.u8 0), AV.sc (Value.int IntKind.u8 0), AV.sc (Value.int IntKind.u8 0), AV.sc (Value.int IntKind.u8 0), AV.sc (Value.int IntKind.u8 0), AV.sc (Value.int IntKind.u8 0), AV.sc (Value.int IntKind.u8 0), AV.sc (Value.int IntKind.u8 0), AV.sc (Value.int IntKind.u8 0), AV.sc (Value.int IntKind.u8 0), AV.sc (Value.int IntKind.u8 0), AV.sc (Value.int IntKind.u8 0), AV.sc (Value.int IntKind.u8 0), AV.sc (Value.int IntKind.u8 0), AV.sc (Value.int IntKind.u8 0), AV.sc (Value.int IntKind.u8 0), AV.sc (Value.int IntKind.u8 0), AV.sc (Value.int IntKind.u8 0), AV.sc (Value.int IntKind.u8 0), AV.sc (Value.int IntKind.u8 0), AV.sc (Value.int IntKind.u8 0), AV.sc (Value.int IntKind.u8 0), AV.sc (Value.int IntKind.u8 0), AV.sc (Value.int IntKind.u8 0), AV.sc (Value.int IntKind.u8 0), AV.sc (Value.int IntKind.u8 0), AV.sc (Value.int IntKind.u8 0)], slcs := [] } := by kernel_rfl
@[go_sem] theorem sz362 : Go.AL.sizeOf Tryz.prog 362 = some 64 := by kernel_rfl
attribute [go_sem] Tryz.results3 Tryz.results4 Tryz.results5 Tryz.results6 Tryz.results8 Tryz.results9 Tryz.results10 Tryz.results11 Tryz.results12 Tryz.results13 Tryz.results14 Tryz.results15 Tryz.results16 Tryz.results17 Tryz.results18 Tryz.results19 Tryz.results20 Tryz.results21 Tryz.results22 Tryz.results23 Tryz.results24 Tryz.results25 Tryz.results26 Tryz.results27 Tryz.results28 Tryz.results33 Tryz.results34 Tryz.results35 Tryz.results36 Tryz.results37 Tryz.results38 Tryz.results39 Tryz.results40 Tryz.results41 Tryz.results42 Tryz.results43 Tryz.results44 Tryz.results45 Tryz.results46 Tryz.results47 Tryz.results48 Tryz.results49
attribute [go_sem] Tryz.results50 Tryz.results51 Tryz.results52 Tryz.results53 Tryz.results54 Tryz.results55 Tryz.results56 Tryz.results57 Tryz.results58 Tryz.results59 Tryz.results60 Tryz.results61 Tryz.results62 Tryz.results63 Tryz.results64 Tryz.results65 Tryz.results66 Tryz.results67 Tryz.results73 Tryz.results74 Tryz.results75 Tryz.results76 Tryz.results77 Tryz.results78 Tryz.results79 Tryz.results80 Tryz.results81 Tryz.results82 Tryz.results83 Tryz.results84 Tryz.results85 Tryz.results86 Tryz.results87 Tryz.results88 Tryz.results89 Tryz.results90 Tryz.results91 Tryz.results92 Tryz.results93 Tryz.results94 Tryz.results95 Tryz.results96 Tryz.results97 Tryz.results98 Tryz.results99
attribute [go_sem] Tryz.results100 Tryz.results101 Tryz.results102 Tryz.results103 Tryz.results104 Tryz.results105 Tryz.results106 Tryz.results107 Tryz.results108 Tryz.results109 Tryz.results110 Tryz.results111 Tryz.results112 Tryz.results113 Tryz.results114 Tryz.results115 Tryz.results116 Tryz.results117 Tryz.results118 Tryz.results119 Tryz.results120 Tryz.results121 Tryz.results138 Tryz.results141 Tryz.results142 Tryz.results143 Tryz.results144 Tryz.results145 Tryz.results146 Tryz.results147 Tryz.results148 Tryz.results149
attribute [go_sem] Tryz.results150 Tryz.results151 Tryz.results152 Tryz.results153 Tryz.results154 Tryz.results155 Tryz.results156 Tryz.results157 Tryz.results158 Tryz.results159 Tryz.results160 Tryz.results161 Tryz.results162 Tryz.results163 Tryz.results164 Tryz.results165 Tryz.results166 Tryz.results167 Tryz.results168 Tryz.results169 Tryz.results170 Tryz.results171 Tryz.results172 Tryz.results173 Tryz.results174 Tryz.results175 Tryz.results176 Tryz.results177 Tryz.results178 Tryz.results179 Tryz.results180 Tryz.results181 Tryz.results182
attribute [go_sem] Tryz.results202 Tryz.results205 Tryz.results206 Tryz.results207 Tryz.results208 Tryz.results209 Tryz.results210 Tryz.results211 Tryz.results212 Tryz.results213 Tryz.results214 Tryz.results215 Tryz.results216 Tryz.results217 Tryz.results218 Tryz.results219 Tryz.results220 Tryz.results221 Tryz.results222 Tryz.results223 Tryz.results224 Tryz.results225 Tryz.results226 Tryz.results227 Tryz.results228 Tryz.results229 Tryz.results230 Tryz.results231
attribute [go_sem] Tryz.results251 Tryz.results252 Tryz.results253 Tryz.results254 Tryz.results255 Tryz.results256 Tryz.results257 Tryz.results258 Tryz.results259 Tryz.results260 Tryz.results261 Tryz.results262 Tryz.results263 Tryz.results264 Tryz.results265 Tryz.results266 Tryz.results267 Tryz.results268 Tryz.results269 Tryz.results270 Tryz.results271 Tryz.results272 Tryz.results273 Tryz.results274 Tryz.results275 Tryz.results276 Tryz.results277 Tryz.results278 Tryz.results279 Tryz.results280 Tryz.results281 Tryz.results295 Tryz.results296 Tryz.results297 Tryz.results298 Tryz.results299
attribute [go_sem] Tryz.results300 Tryz.results301 Tryz.results302 Tryz.results303 Tryz.results304 Tryz.results305 Tryz.results306 Tryz.results307 Tryz.results319 Tryz.results320 Tryz.results321 Tryz.results322 Tryz.results323 Tryz.results324 Tryz.results334 Tryz.results335
end Go.Proofs.YteipiejlljnclaaGreatDoor
