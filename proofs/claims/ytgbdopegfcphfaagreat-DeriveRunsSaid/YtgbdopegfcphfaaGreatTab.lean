/- MADE BY tables.py: what is known of the types of the seat. No condition. -/
import Derived.Test.YtgbdopegfcphfaaGreatTrie
import Derived.Test.YtgbdopegfcphfaaGreatProg
namespace Go.Ideal.Tz
open Go Go.Proofs
def i0 : TI := { sz := 1, bytes := 0, zero := none, und := (TypeDesc.tuple #[]) }
def i1 : TI := { sz := 1, bytes := 8, zero := some Dat.nilf, und := (TypeDesc.func #[] #[] false) }
def i2 : TI := { sz := 1, bytes := 8, zero := some (Dat.int IntKind.i64 0), und := (TypeDesc.int IntKind.i64) }
def i3 : TI := { sz := 1, bytes := 8, zero := some (Dat.int IntKind.i64 0), und := (TypeDesc.int IntKind.i64) }
def i4 : TI := { sz := 1, bytes := 1, zero := some (Dat.bool false), und := TypeDesc.bool }
def i5 : TI := { sz := 1, bytes := 1, zero := some (Dat.int IntKind.u8 0), und := (TypeDesc.int IntKind.u8) }
def i6 : TI := { sz := 1, bytes := 1, zero := some (Dat.int IntKind.u8 0), und := (TypeDesc.int IntKind.u8) }
def i7 : TI := { sz := 4, bytes := 24, zero := some (Dat.agg [(Dat.int IntKind.i64 0), (Dat.int IntKind.i64 0), (Dat.bool false), (Dat.int IntKind.u8 0)]), und := (TypeDesc.struct #[{ name := "x", type := 2, offset := 0, embedded := false, tag := "", pkgPath := "runtime", byteOffset := 0 }, { name := "y", type := 3, offset := 1, embedded := false, tag := "", pkgPath := "runtime", byteOffset := 8 }, { name := "signed", type := 4, offset := 2, embedded := false, tag := "", pkgPath := "runtime", byteOffset := 16 }, { name := "code", type := 6, offset := 3, embedded := false, tag := "", pkgPath := "runtime", byteOffset := 17 }]) }
def i8 : TI := { sz := 4, bytes := 24, zero := some (Dat.agg [(Dat.int IntKind.i64 0), (Dat.int IntKind.i64 0), (Dat.bool false), (Dat.int IntKind.u8 0)]), und := (TypeDesc.struct #[{ name := "x", type := 2, offset := 0, embedded := false, tag := "", pkgPath := "runtime", byteOffset := 0 }, { name := "y", type := 3, offset := 1, embedded := false, tag := "", pkgPath := "runtime", byteOffset := 8 }, { name := "signed", type := 4, offset := 2, embedded := false, tag := "", pkgPath := "runtime", byteOffset := 16 }, { name := "code", type := 6, offset := 3, embedded := false, tag := "", pkgPath := "runtime", byteOffset := 17 }]) }
def i9 : TI := { sz := 1, bytes := 16, zero := some (Dat.str []), und := TypeDesc.string }
def i10 : TI := { sz := 1, bytes := 16, zero := some (Dat.str []), und := TypeDesc.string }
def i11 : TI := { sz := 1, bytes := 16, zero := some (Dat.str []), und := TypeDesc.string }
def i12 : TI := { sz := 1, bytes := 8, zero := some (Dat.int IntKind.u64 0), und := (TypeDesc.int IntKind.u64) }
def i13 : TI := { sz := 2, bytes := 24, zero := some (Dat.agg [(Dat.str []), (Dat.int IntKind.u64 0)]), und := (TypeDesc.struct #[{ name := "msg", type := 9, offset := 0, embedded := false, tag := "", pkgPath := "runtime", byteOffset := 0 }, { name := "addr", type := 12, offset := 1, embedded := false, tag := "", pkgPath := "runtime", byteOffset := 16 }]) }
def i14 : TI := { sz := 2, bytes := 24, zero := some (Dat.agg [(Dat.str []), (Dat.int IntKind.u64 0)]), und := (TypeDesc.struct #[{ name := "msg", type := 9, offset := 0, embedded := false, tag := "", pkgPath := "runtime", byteOffset := 0 }, { name := "addr", type := 12, offset := 1, embedded := false, tag := "", pkgPath := "runtime", byteOffset := 16 }]) }
def i15 : TI := { sz := 1, bytes := 8, zero := some Dat.nilp, und := (TypeDesc.pointer 395) }
def i16 : TI := { sz := 1, bytes := 8, zero := some Dat.nilp, und := (TypeDesc.pointer 398) }
def i17 : TI := { sz := 1, bytes := 8, zero := some Dat.nilp, und := (TypeDesc.pointer 405) }
def i18 : TI := { sz := 1, bytes := 8, zero := some (Dat.agg [Dat.nilp]), und := (TypeDesc.struct #[{ name := "typ", type := 17, offset := 0, embedded := false, tag := "", pkgPath := "internal/runtime/maps", byteOffset := 0 }]) }
def i19 : TI := { sz := 1, bytes := 8, zero := some (Dat.agg [Dat.nilp]), und := (TypeDesc.struct #[{ name := "typ", type := 17, offset := 0, embedded := false, tag := "", pkgPath := "internal/runtime/maps", byteOffset := 0 }]) }
def i20 : TI := { sz := 1, bytes := 16, zero := some Dat.nili, und := (TypeDesc.interface #[]) }
def i21 : TI := { sz := 1, bytes := 4, zero := some (Dat.int IntKind.i32 0), und := (TypeDesc.int IntKind.i32) }
def i22 : TI := { sz := 4, bytes := 56, zero := some (Dat.agg [(Dat.int IntKind.u8 0), (Dat.str []), (Dat.str []), (Dat.str [])]), und := (TypeDesc.struct #[{ name := "Kind", type := 5, offset := 0, embedded := false, tag := "", pkgPath := "", byteOffset := 0 }, { name := "Name", type := 9, offset := 1, embedded := false, tag := "", pkgPath := "", byteOffset := 8 }, { name := "Target", type := 9, offset := 2, embedded := false, tag := "", pkgPath := "", byteOffset := 24 }, { name := "Value", type := 9, offset := 3, embedded := false, tag := "", pkgPath := "", byteOffset := 40 }]) }
def i23 : TI := { sz := 4, bytes := 56, zero := some (Dat.agg [(Dat.int IntKind.u8 0), (Dat.str []), (Dat.str []), (Dat.str [])]), und := (TypeDesc.struct #[{ name := "Kind", type := 5, offset := 0, embedded := false, tag := "", pkgPath := "", byteOffset := 0 }, { name := "Name", type := 9, offset := 1, embedded := false, tag := "", pkgPath := "", byteOffset := 8 }, { name := "Target", type := 9, offset := 2, embedded := false, tag := "", pkgPath := "", byteOffset := 24 }, { name := "Value", type := 9, offset := 3, embedded := false, tag := "", pkgPath := "", byteOffset := 40 }]) }
def i24 : TI := { sz := 1, bytes := 24, zero := some Dat.nils, und := (TypeDesc.slice 23) }
def i25 : TI := { sz := 1, bytes := 24, zero := some Dat.nils, und := (TypeDesc.slice 96) }
def i26 : TI := { sz := 1, bytes := 24, zero := some Dat.nils, und := (TypeDesc.slice 9) }
def i27 : TI := { sz := 7, bytes := 128, zero := some (Dat.agg [(Dat.str []), (Dat.str []), (Dat.int IntKind.i64 0), Dat.nils, Dat.nils, Dat.nils, (Dat.str [])]), und := (TypeDesc.struct #[{ name := "Base", type := 9, offset := 0, embedded := false, tag := "", pkgPath := "", byteOffset := 0 }, { name := "Comment", type := 9, offset := 1, embedded := false, tag := "", pkgPath := "", byteOffset := 16 }, { name := "Date", type := 3, offset := 2, embedded := false, tag := "", pkgPath := "", byteOffset := 32 }, { name := "Files", type := 25, offset := 3, embedded := false, tag := "", pkgPath := "", byteOffset := 40 }, { name := "Parents", type := 26, offset := 4, embedded := false, tag := "", pkgPath := "", byteOffset := 64 }, { name := "Tags", type := 24, offset := 5, embedded := false, tag := "", pkgPath := "", byteOffset := 88 }, { name := "User", type := 9, offset := 6, embedded := false, tag := "", pkgPath := "", byteOffset := 112 }]) }
def i28 : TI := { sz := 7, bytes := 128, zero := some (Dat.agg [(Dat.str []), (Dat.str []), (Dat.int IntKind.i64 0), Dat.nils, Dat.nils, Dat.nils, (Dat.str [])]), und := (TypeDesc.struct #[{ name := "Base", type := 9, offset := 0, embedded := false, tag := "", pkgPath := "", byteOffset := 0 }, { name := "Comment", type := 9, offset := 1, embedded := false, tag := "", pkgPath := "", byteOffset := 16 }, { name := "Date", type := 3, offset := 2, embedded := false, tag := "", pkgPath := "", byteOffset := 32 }, { name := "Files", type := 25, offset := 3, embedded := false, tag := "", pkgPath := "", byteOffset := 40 }, { name := "Parents", type := 26, offset := 4, embedded := false, tag := "", pkgPath := "", byteOffset := 64 }, { name := "Tags", type := 24, offset := 5, embedded := false, tag := "", pkgPath := "", byteOffset := 88 }, { name := "User", type := 9, offset := 6, embedded := false, tag := "", pkgPath := "", byteOffset := 112 }]) }
def i29 : TI := { sz := 1, bytes := 8, zero := some Dat.nilf, und := (TypeDesc.func #[28] #[9] false) }
def i30 : TI := { sz := 1, bytes := 8, zero := some Dat.nilf, und := (TypeDesc.func #[9] #[9] false) }
def i31 : TI := { sz := 1, bytes := 8, zero := some Dat.nilm, und := (TypeDesc.map 9 9) }
def i32 : TI := { sz := 6, bytes := 72, zero := some (Dat.agg [(Dat.str []), (Dat.str []), (Dat.str []), (Dat.str []), (Dat.bool false), (Dat.bool false)]), und := (TypeDesc.struct #[{ name := "Tag", type := 9, offset := 0, embedded := false, tag := "", pkgPath := "", byteOffset := 0 }, { name := "Target", type := 9, offset := 1, embedded := false, tag := "", pkgPath := "", byteOffset := 16 }, { name := "Value", type := 9, offset := 2, embedded := false, tag := "", pkgPath := "", byteOffset := 32 }, { name := "Source", type := 9, offset := 3, embedded := false, tag := "", pkgPath := "", byteOffset := 48 }, { name := "Spread", type := 4, offset := 4, embedded := false, tag := "", pkgPath := "", byteOffset := 64 }, { name := "Own", type := 4, offset := 5, embedded := false, tag := "", pkgPath := "", byteOffset := 65 }]) }
def i33 : TI := { sz := 6, bytes := 72, zero := some (Dat.agg [(Dat.str []), (Dat.str []), (Dat.str []), (Dat.str []), (Dat.bool false), (Dat.bool false)]), und := (TypeDesc.struct #[{ name := "Tag", type := 9, offset := 0, embedded := false, tag := "", pkgPath := "", byteOffset := 0 }, { name := "Target", type := 9, offset := 1, embedded := false, tag := "", pkgPath := "", byteOffset := 16 }, { name := "Value", type := 9, offset := 2, embedded := false, tag := "", pkgPath := "", byteOffset := 32 }, { name := "Source", type := 9, offset := 3, embedded := false, tag := "", pkgPath := "", byteOffset := 48 }, { name := "Spread", type := 4, offset := 4, embedded := false, tag := "", pkgPath := "", byteOffset := 64 }, { name := "Own", type := 4, offset := 5, embedded := false, tag := "", pkgPath := "", byteOffset := 65 }]) }
def i34 : TI := { sz := 1, bytes := 0, zero := none, und := (TypeDesc.tuple #[33, 4]) }
def i35 : TI := { sz := 1, bytes := 8, zero := some Dat.nilf, und := (TypeDesc.func #[31, 9, 9] #[33, 4] false) }
def i36 : TI := { sz := 1, bytes := 24, zero := some Dat.nils, und := (TypeDesc.slice 33) }
def i37 : TI := { sz := 1, bytes := 8, zero := some Dat.nilf, und := (TypeDesc.func #[31] #[36] false) }
def i38 : TI := { sz := 1, bytes := 8, zero := some Dat.nilf, und := (TypeDesc.func #[] #[4] false) }
def i39 : TI := { sz := 1, bytes := 8, zero := some Dat.nilf, und := (TypeDesc.func #[4, 4] #[4] false) }
def i40 : TI := { sz := 1, bytes := 8, zero := some Dat.nilf, und := (TypeDesc.func #[3, 3, 3] #[3] false) }
def i41 : TI := { sz := 1, bytes := 8, zero := some Dat.nilf, und := (TypeDesc.func #[43] #[9] false) }
def i42 : TI := { sz := 3, bytes := 48, zero := some (Dat.agg [(Dat.int IntKind.i64 0), Dat.nils, (Dat.str [])]), und := (TypeDesc.struct #[{ name := "Date", type := 3, offset := 0, embedded := false, tag := "", pkgPath := "", byteOffset := 0 }, { name := "Tags", type := 24, offset := 1, embedded := false, tag := "", pkgPath := "", byteOffset := 8 }, { name := "User", type := 9, offset := 2, embedded := false, tag := "", pkgPath := "", byteOffset := 32 }]) }
def i43 : TI := { sz := 3, bytes := 48, zero := some (Dat.agg [(Dat.int IntKind.i64 0), Dat.nils, (Dat.str [])]), und := (TypeDesc.struct #[{ name := "Date", type := 3, offset := 0, embedded := false, tag := "", pkgPath := "", byteOffset := 0 }, { name := "Tags", type := 24, offset := 1, embedded := false, tag := "", pkgPath := "", byteOffset := 8 }, { name := "User", type := 9, offset := 2, embedded := false, tag := "", pkgPath := "", byteOffset := 32 }]) }
def i44 : TI := { sz := 6, bytes := 80, zero := some (Dat.agg [(Dat.int IntKind.u8 0), (Dat.str []), (Dat.str []), (Dat.str []), (Dat.int IntKind.i64 0), (Dat.str [])]), und := (TypeDesc.struct #[{ name := "Op", type := 23, offset := 0, embedded := false, tag := "", pkgPath := "", byteOffset := 0 }, { name := "Date", type := 3, offset := 4, embedded := false, tag := "", pkgPath := "", byteOffset := 56 }, { name := "Source", type := 9, offset := 5, embedded := false, tag := "", pkgPath := "", byteOffset := 64 }]) }
def i45 : TI := { sz := 6, bytes := 80, zero := some (Dat.agg [(Dat.int IntKind.u8 0), (Dat.str []), (Dat.str []), (Dat.str []), (Dat.int IntKind.i64 0), (Dat.str [])]), und := (TypeDesc.struct #[{ name := "Op", type := 23, offset := 0, embedded := false, tag := "", pkgPath := "", byteOffset := 0 }, { name := "Date", type := 3, offset := 4, embedded := false, tag := "", pkgPath := "", byteOffset := 56 }, { name := "Source", type := 9, offset := 5, embedded := false, tag := "", pkgPath := "", byteOffset := 64 }]) }
def i46 : TI := { sz := 1, bytes := 0, zero := none, und := (TypeDesc.tuple #[45, 4]) }
def i47 : TI := { sz := 1, bytes := 8, zero := some Dat.nilf, und := (TypeDesc.func #[31, 9, 9] #[45, 4] false) }
def i48 : TI := { sz := 1, bytes := 8, zero := some Dat.nilf, und := (TypeDesc.func #[31] #[26] false) }
def i49 : TI := { sz := 1, bytes := 8, zero := some Dat.nilf, und := (TypeDesc.func #[3, 3, 4] #[4] false) }
def i50 : TI := { sz := 1, bytes := 8, zero := some Dat.nilp, und := (TypeDesc.pointer 170) }
def i51 : TI := { sz := 1, bytes := 8, zero := some Dat.nilf, und := (TypeDesc.func #[3] #[50] false) }
def i52 : TI := { sz := 1, bytes := 8, zero := some Dat.nilp, und := (TypeDesc.pointer 174) }
def i53 : TI := { sz := 1, bytes := 8, zero := some Dat.nilf, und := (TypeDesc.func #[50] #[52] false) }
def i54 : TI := { sz := 1, bytes := 8, zero := some (Dat.int IntKind.i64 0), und := (TypeDesc.int IntKind.i64) }
def i55 : TI := { sz := 1, bytes := 0, zero := none, und := (TypeDesc.tuple #[9, 54]) }
def i56 : TI := { sz := 1, bytes := 8, zero := some Dat.nilf, und := (TypeDesc.func #[9, 4] #[9, 54] false) }
def i57 : TI := { sz := 1, bytes := 8, zero := some Dat.nilf, und := (TypeDesc.func #[9] #[54] false) }
def i58 : TI := { sz := 4, bytes := 4, zero := some (Dat.agg [(Dat.bool false), (Dat.bool false), (Dat.bool false), (Dat.bool false)]), und := (TypeDesc.struct #[{ name := "Held", type := 4, offset := 0, embedded := false, tag := "", pkgPath := "", byteOffset := 0 }, { name := "Phantom", type := 4, offset := 1, embedded := false, tag := "", pkgPath := "", byteOffset := 1 }, { name := "Private", type := 4, offset := 2, embedded := false, tag := "", pkgPath := "", byteOffset := 2 }, { name := "Shunned", type := 4, offset := 3, embedded := false, tag := "", pkgPath := "", byteOffset := 3 }]) }
def i59 : TI := { sz := 4, bytes := 4, zero := some (Dat.agg [(Dat.bool false), (Dat.bool false), (Dat.bool false), (Dat.bool false)]), und := (TypeDesc.struct #[{ name := "Held", type := 4, offset := 0, embedded := false, tag := "", pkgPath := "", byteOffset := 0 }, { name := "Phantom", type := 4, offset := 1, embedded := false, tag := "", pkgPath := "", byteOffset := 1 }, { name := "Private", type := 4, offset := 2, embedded := false, tag := "", pkgPath := "", byteOffset := 2 }, { name := "Shunned", type := 4, offset := 3, embedded := false, tag := "", pkgPath := "", byteOffset := 3 }]) }
def i60 : TI := { sz := 1, bytes := 8, zero := some Dat.nilf, und := (TypeDesc.func #[9] #[59] false) }
def i61 : TI := { sz := 1, bytes := 24, zero := some Dat.nils, und := (TypeDesc.slice 3) }
def i62 : TI := { sz := 1, bytes := 24, zero := some Dat.nils, und := (TypeDesc.slice 64) }
def i63 : TI := { sz := 3, bytes := 40, zero := some (Dat.agg [(Dat.str []), (Dat.str []), (Dat.bool false)]), und := (TypeDesc.struct #[{ name := "Name", type := 9, offset := 0, embedded := false, tag := "", pkgPath := "", byteOffset := 0 }, { name := "Content", type := 9, offset := 1, embedded := false, tag := "", pkgPath := "", byteOffset := 16 }, { name := "Private", type := 4, offset := 2, embedded := false, tag := "", pkgPath := "", byteOffset := 32 }]) }
def i64 : TI := { sz := 3, bytes := 40, zero := some (Dat.agg [(Dat.str []), (Dat.str []), (Dat.bool false)]), und := (TypeDesc.struct #[{ name := "Name", type := 9, offset := 0, embedded := false, tag := "", pkgPath := "", byteOffset := 0 }, { name := "Content", type := 9, offset := 1, embedded := false, tag := "", pkgPath := "", byteOffset := 16 }, { name := "Private", type := 4, offset := 2, embedded := false, tag := "", pkgPath := "", byteOffset := 32 }]) }
def i65 : TI := { sz := 1, bytes := 8, zero := some Dat.nilf, und := (TypeDesc.func #[3, 4, 4] #[64] false) }
def i66 : TI := { sz := 1, bytes := 8, zero := some Dat.nilf, und := (TypeDesc.func #[62, 26] #[54] true) }
def i67 : TI := { sz := 1, bytes := 8, zero := some Dat.nilf, und := (TypeDesc.func #[175] #[] false) }
def i68 : TI := { sz := 1, bytes := 8, zero := some Dat.nilf, und := (TypeDesc.func #[175] #[] false) }
def i69 : TI := { sz := 1, bytes := 8, zero := some Dat.nilf, und := (TypeDesc.func #[] #[68] false) }
def i70 : TI := { sz := 1, bytes := 0, zero := none, und := (TypeDesc.tuple #[9, 4]) }
def i71 : TI := { sz := 1, bytes := 8, zero := some Dat.nilf, und := (TypeDesc.func #[9] #[9, 4] false) }
def i72 : TI := { sz := 1, bytes := 8, zero := some Dat.nilf, und := (TypeDesc.func #[61, 61, 4] #[4] false) }
def i73 : TI := { sz := 1, bytes := 24, zero := some Dat.nils, und := (TypeDesc.slice 5) }
def i74 : TI := { sz := 1, bytes := 8, zero := some Dat.nilf, und := (TypeDesc.func #[3] #[4] false) }
def i75 : TI := { sz := 1, bytes := 8, zero := some Dat.nilf, und := (TypeDesc.func #[3, 61] #[4] false) }
def i76 : TI := { sz := 1, bytes := 8, zero := some Dat.nilf, und := (TypeDesc.func #[9, 4] #[54] false) }
def i77 : TI := { sz := 1, bytes := 8, zero := some Dat.nilf, und := (TypeDesc.func #[61, 3, 4] #[4] false) }
def i78 : TI := { sz := 1, bytes := 24, zero := some Dat.nils, und := (TypeDesc.slice 4) }
def i79 : TI := { sz := 1, bytes := 8, zero := some Dat.nilm, und := (TypeDesc.map 9 4) }
def i80 : TI := { sz := 1, bytes := 0, zero := none, und := (TypeDesc.tuple #[4, 4]) }
def i81 : TI := { sz := 1, bytes := 8, zero := some Dat.nilf, und := (TypeDesc.func #[61, 78, 61, 3] #[4] false) }
def i82 : TI := { sz := 1, bytes := 24, zero := some Dat.nils, und := (TypeDesc.slice 86) }
def i83 : TI := { sz := 1, bytes := 8, zero := some Dat.nilp, und := (TypeDesc.pointer 90) }
def i84 : TI := { sz := 1, bytes := 8, zero := some Dat.nilf, und := (TypeDesc.func #[] #[83] false) }
def i85 : TI := { sz := 7, bytes := 88, zero := some (Dat.agg [(Dat.int IntKind.i64 0), (Dat.int IntKind.i64 0), (Dat.int IntKind.i64 0), Dat.nils, Dat.nils, (Dat.int IntKind.i64 0), (Dat.bool false)]), und := (TypeDesc.struct #[{ name := "Kind", type := 3, offset := 0, embedded := false, tag := "", pkgPath := "", byteOffset := 0 }, { name := "N", type := 3, offset := 1, embedded := false, tag := "", pkgPath := "", byteOffset := 8 }, { name := "Keep", type := 3, offset := 2, embedded := false, tag := "", pkgPath := "", byteOffset := 16 }, { name := "Picks", type := 61, offset := 3, embedded := false, tag := "", pkgPath := "", byteOffset := 24 }, { name := "Wants", type := 61, offset := 4, embedded := false, tag := "", pkgPath := "", byteOffset := 48 }, { name := "Odd", type := 3, offset := 5, embedded := false, tag := "", pkgPath := "", byteOffset := 72 }, { name := "Private", type := 4, offset := 6, embedded := false, tag := "", pkgPath := "", byteOffset := 80 }]) }
def i86 : TI := { sz := 7, bytes := 88, zero := some (Dat.agg [(Dat.int IntKind.i64 0), (Dat.int IntKind.i64 0), (Dat.int IntKind.i64 0), Dat.nils, Dat.nils, (Dat.int IntKind.i64 0), (Dat.bool false)]), und := (TypeDesc.struct #[{ name := "Kind", type := 3, offset := 0, embedded := false, tag := "", pkgPath := "", byteOffset := 0 }, { name := "N", type := 3, offset := 1, embedded := false, tag := "", pkgPath := "", byteOffset := 8 }, { name := "Keep", type := 3, offset := 2, embedded := false, tag := "", pkgPath := "", byteOffset := 16 }, { name := "Picks", type := 61, offset := 3, embedded := false, tag := "", pkgPath := "", byteOffset := 24 }, { name := "Wants", type := 61, offset := 4, embedded := false, tag := "", pkgPath := "", byteOffset := 48 }, { name := "Odd", type := 3, offset := 5, embedded := false, tag := "", pkgPath := "", byteOffset := 72 }, { name := "Private", type := 4, offset := 6, embedded := false, tag := "", pkgPath := "", byteOffset := 80 }]) }
def i87 : TI := { sz := 1, bytes := 8, zero := some Dat.nilf, und := (TypeDesc.func #[3] #[9] false) }
def i88 : TI := { sz := 1, bytes := 8, zero := some Dat.nilf, und := (TypeDesc.func #[62, 26] #[54] false) }
def i89 : TI := { sz := 4, bytes := 32, zero := some (Dat.agg [Dat.nilm, Dat.nilm, Dat.nilm, Dat.nilm]), und := (TypeDesc.struct #[{ name := "Held", type := 31, offset := 0, embedded := false, tag := "", pkgPath := "", byteOffset := 0 }, { name := "Phantom", type := 79, offset := 1, embedded := false, tag := "", pkgPath := "", byteOffset := 8 }, { name := "Private", type := 79, offset := 2, embedded := false, tag := "", pkgPath := "", byteOffset := 16 }, { name := "Shunned", type := 79, offset := 3, embedded := false, tag := "", pkgPath := "", byteOffset := 24 }]) }
def i90 : TI := { sz := 4, bytes := 32, zero := some (Dat.agg [Dat.nilm, Dat.nilm, Dat.nilm, Dat.nilm]), und := (TypeDesc.struct #[{ name := "Held", type := 31, offset := 0, embedded := false, tag := "", pkgPath := "", byteOffset := 0 }, { name := "Phantom", type := 79, offset := 1, embedded := false, tag := "", pkgPath := "", byteOffset := 8 }, { name := "Private", type := 79, offset := 2, embedded := false, tag := "", pkgPath := "", byteOffset := 16 }, { name := "Shunned", type := 79, offset := 3, embedded := false, tag := "", pkgPath := "", byteOffset := 24 }]) }
def i91 : TI := { sz := 1, bytes := 8, zero := some Dat.nilf, und := (TypeDesc.func #[3, 3] #[] false) }
def i92 : TI := { sz := 1, bytes := 8, zero := some Dat.nilf, und := (TypeDesc.func #[52, 83] #[4] false) }
def i93 : TI := { sz := 1, bytes := 8, zero := some Dat.nilf, und := (TypeDesc.func #[] #[50] false) }
def i94 : TI := { sz := 1, bytes := 8, zero := some Dat.nilf, und := (TypeDesc.func #[82] #[4] false) }
def i95 : TI := { sz := 2, bytes := 32, zero := some (Dat.agg [(Dat.str []), (Dat.str [])]), und := (TypeDesc.struct #[{ name := "Name", type := 9, offset := 0, embedded := false, tag := "", pkgPath := "", byteOffset := 0 }, { name := "Hash", type := 9, offset := 1, embedded := false, tag := "", pkgPath := "", byteOffset := 16 }]) }
def i96 : TI := { sz := 2, bytes := 32, zero := some (Dat.agg [(Dat.str []), (Dat.str [])]), und := (TypeDesc.struct #[{ name := "Name", type := 9, offset := 0, embedded := false, tag := "", pkgPath := "", byteOffset := 0 }, { name := "Hash", type := 9, offset := 1, embedded := false, tag := "", pkgPath := "", byteOffset := 16 }]) }
def i97 : TI := { sz := 1, bytes := 24, zero := some Dat.nils, und := (TypeDesc.slice 102) }
def i98 : TI := { sz := 1, bytes := 8, zero := some Dat.nilf, und := (TypeDesc.func #[31] #[97] false) }
def i99 : TI := { sz := 1, bytes := 24, zero := some Dat.nils, und := (TypeDesc.slice 104) }
def i100 : TI := { sz := 1, bytes := 8, zero := some Dat.nilf, und := (TypeDesc.func #[31] #[99] false) }
def i101 : TI := { sz := 3, bytes := 40, zero := some (Dat.agg [(Dat.str []), (Dat.str []), (Dat.bool false)]), und := (TypeDesc.struct #[{ name := "Child", type := 9, offset := 0, embedded := false, tag := "", pkgPath := "", byteOffset := 0 }, { name := "Parent", type := 9, offset := 1, embedded := false, tag := "", pkgPath := "", byteOffset := 16 }, { name := "Primary", type := 4, offset := 2, embedded := false, tag := "", pkgPath := "", byteOffset := 32 }]) }
def i102 : TI := { sz := 3, bytes := 40, zero := some (Dat.agg [(Dat.str []), (Dat.str []), (Dat.bool false)]), und := (TypeDesc.struct #[{ name := "Child", type := 9, offset := 0, embedded := false, tag := "", pkgPath := "", byteOffset := 0 }, { name := "Parent", type := 9, offset := 1, embedded := false, tag := "", pkgPath := "", byteOffset := 16 }, { name := "Primary", type := 4, offset := 2, embedded := false, tag := "", pkgPath := "", byteOffset := 32 }]) }
def i103 : TI := { sz := 4, bytes := 64, zero := some (Dat.agg [(Dat.str []), (Dat.str []), (Dat.str []), (Dat.str [])]), und := (TypeDesc.struct #[{ name := "Checkin", type := 9, offset := 0, embedded := false, tag := "", pkgPath := "", byteOffset := 0 }, { name := "Name", type := 9, offset := 1, embedded := false, tag := "", pkgPath := "", byteOffset := 16 }, { name := "Old", type := 9, offset := 2, embedded := false, tag := "", pkgPath := "", byteOffset := 32 }, { name := "New", type := 9, offset := 3, embedded := false, tag := "", pkgPath := "", byteOffset := 48 }]) }
def i104 : TI := { sz := 4, bytes := 64, zero := some (Dat.agg [(Dat.str []), (Dat.str []), (Dat.str []), (Dat.str [])]), und := (TypeDesc.struct #[{ name := "Checkin", type := 9, offset := 0, embedded := false, tag := "", pkgPath := "", byteOffset := 0 }, { name := "Name", type := 9, offset := 1, embedded := false, tag := "", pkgPath := "", byteOffset := 16 }, { name := "Old", type := 9, offset := 2, embedded := false, tag := "", pkgPath := "", byteOffset := 32 }, { name := "New", type := 9, offset := 3, embedded := false, tag := "", pkgPath := "", byteOffset := 48 }]) }
def i105 : TI := { sz := 1, bytes := 8, zero := some Dat.nilf, und := (TypeDesc.func #[31, 9] #[9] false) }
def i106 : TI := { sz := 1, bytes := 8, zero := some Dat.nilf, und := (TypeDesc.func #[26, 26] #[4] false) }
def i107 : TI := { sz := 1, bytes := 8, zero := some Dat.nilf, und := (TypeDesc.func #[31, 9] #[26] false) }
def i108 : TI := { sz := 1, bytes := 24, zero := some Dat.nils, und := (TypeDesc.slice 207) }
def i109 : TI := { sz := 1, bytes := 8, zero := some Dat.nilf, und := (TypeDesc.func #[108, 3] #[31] false) }
def i110 : TI := { sz := 1, bytes := 8, zero := some Dat.nilf, und := (TypeDesc.func #[210] #[] false) }
def i111 : TI := { sz := 1, bytes := 8, zero := some Dat.nilf, und := (TypeDesc.func #[210] #[] false) }
def i112 : TI := { sz := 1, bytes := 8, zero := some Dat.nilf, und := (TypeDesc.func #[31] #[111] false) }
def i113 : TI := { sz := 1, bytes := 0, zero := none, und := (TypeDesc.tuple #[28, 4]) }
def i114 : TI := { sz := 1, bytes := 8, zero := some Dat.nilf, und := (TypeDesc.func #[9] #[28, 4] false) }
def i115 : TI := { sz := 1, bytes := 8, zero := some Dat.nilf, und := (TypeDesc.func #[28, 28] #[4] false) }
def i116 : TI := { sz := 1, bytes := 8, zero := some Dat.nilf, und := (TypeDesc.func #[97, 97] #[4] false) }
def i117 : TI := { sz := 1, bytes := 8, zero := some Dat.nilf, und := (TypeDesc.func #[99, 99] #[4] false) }
def i118 : TI := { sz := 1, bytes := 8, zero := some Dat.nilf, und := (TypeDesc.func #[108, 3] #[4] false) }
def i119 : TI := { sz := 1, bytes := 8, zero := some Dat.nilf, und := (TypeDesc.func #[108, 61] #[4] false) }
def i120 : TI := { sz := 1, bytes := 8, zero := some Dat.nilf, und := (TypeDesc.func #[61] #[25] false) }
def i121 : TI := { sz := 1, bytes := 8, zero := some Dat.nilm, und := (TypeDesc.map 4 3) }
def i122 : TI := { sz := 1, bytes := 8, zero := some Dat.nilf, und := (TypeDesc.func #[3, 3] #[4] false) }
def i123 : TI := { sz := 1, bytes := 8, zero := some Dat.nilf, und := (TypeDesc.func #[126, 126] #[4] false) }
def i124 : TI := { sz := 2, bytes := 32, zero := some (Dat.agg [(Dat.str []), (Dat.str [])]), und := (TypeDesc.struct #[{ name := "Branch", type := 9, offset := 0, embedded := false, tag := "", pkgPath := "", byteOffset := 0 }, { name := "Name", type := 9, offset := 1, embedded := false, tag := "", pkgPath := "", byteOffset := 16 }]) }
def i125 : TI := { sz := 2, bytes := 32, zero := some (Dat.agg [(Dat.str []), (Dat.str [])]), und := (TypeDesc.struct #[{ name := "Branch", type := 9, offset := 0, embedded := false, tag := "", pkgPath := "", byteOffset := 0 }, { name := "Name", type := 9, offset := 1, embedded := false, tag := "", pkgPath := "", byteOffset := 16 }]) }
def i126 : TI := { sz := 1, bytes := 24, zero := some Dat.nils, und := (TypeDesc.slice 125) }
def i127 : TI := { sz := 1, bytes := 8, zero := some Dat.nilf, und := (TypeDesc.func #[31] #[126] false) }
def i128 : TI := { sz := 1, bytes := 8, zero := some Dat.nilf, und := (TypeDesc.func #[31, 9] #[4] false) }
def i129 : TI := { sz := 1, bytes := 8, zero := some Dat.nilf, und := (TypeDesc.func #[225] #[] false) }
def i130 : TI := { sz := 1, bytes := 8, zero := some Dat.nilf, und := (TypeDesc.func #[225] #[] false) }
def i131 : TI := { sz := 1, bytes := 8, zero := some Dat.nilf, und := (TypeDesc.func #[31] #[130] false) }
def i132 : TI := { sz := 1, bytes := 8, zero := some Dat.nilm, und := (TypeDesc.map 9 3) }
def i133 : TI := { sz := 1, bytes := 8, zero := some Dat.nilf, und := (TypeDesc.func #[108] #[4] false) }
def i134 : TI := { sz := 1, bytes := 8, zero := some Dat.nilp, und := (TypeDesc.pointer 229) }
def i135 : TI := { sz := 1, bytes := 8, zero := some Dat.nilf, und := (TypeDesc.func #[] #[134] false) }
def i136 : TI := { sz := 1, bytes := 8, zero := some Dat.nilf, und := (TypeDesc.func #[9, 9] #[] false) }
def i137 : TI := { sz := 4, bytes := 96, zero := some (Dat.agg [Dat.nils, Dat.nils, Dat.nils, Dat.nils]), und := (TypeDesc.struct #[{ name := "Plinks", type := 97, offset := 0, embedded := false, tag := "", pkgPath := "", byteOffset := 0 }, { name := "Mlinks", type := 99, offset := 1, embedded := false, tag := "", pkgPath := "", byteOffset := 24 }, { name := "Tags", type := 36, offset := 2, embedded := false, tag := "", pkgPath := "", byteOffset := 48 }, { name := "Leaves", type := 126, offset := 3, embedded := false, tag := "", pkgPath := "", byteOffset := 72 }]) }
def i138 : TI := { sz := 4, bytes := 96, zero := some (Dat.agg [Dat.nils, Dat.nils, Dat.nils, Dat.nils]), und := (TypeDesc.struct #[{ name := "Plinks", type := 97, offset := 0, embedded := false, tag := "", pkgPath := "", byteOffset := 0 }, { name := "Mlinks", type := 99, offset := 1, embedded := false, tag := "", pkgPath := "", byteOffset := 24 }, { name := "Tags", type := 36, offset := 2, embedded := false, tag := "", pkgPath := "", byteOffset := 48 }, { name := "Leaves", type := 126, offset := 3, embedded := false, tag := "", pkgPath := "", byteOffset := 72 }]) }
def i139 : TI := { sz := 1, bytes := 8, zero := some Dat.nilf, und := (TypeDesc.func #[] #[138] false) }
def i140 : TI := { sz := 1, bytes := 8, zero := some Dat.nilf, und := (TypeDesc.func #[138, 138] #[4] false) }
def i141 : TI := { sz := 1, bytes := 8, zero := some Dat.nilf, und := (TypeDesc.func #[31] #[138] false) }
def i142 : TI := { sz := 1, bytes := 8, zero := some Dat.nilf, und := (TypeDesc.func #[] #[31] false) }
def i143 : TI := { sz := 1, bytes := 8, zero := some Dat.nilf, und := (TypeDesc.func #[108, 61, 3] #[4] false) }
def i144 : TI := { sz := 1, bytes := 8, zero := some Dat.nilf, und := (TypeDesc.func #[9] #[] false) }
def i145 : TI := { sz := 1, bytes := 8, zero := some Dat.nilf, und := (TypeDesc.func #[108, 61, 61] #[4] false) }
def i146 : TI := { sz := 1, bytes := 24, zero := some Dat.nils, und := (TypeDesc.slice 148) }
def i147 : TI := { sz := 2, bytes := 32, zero := some (Dat.agg [(Dat.int IntKind.u8 0), Dat.nils]), und := (TypeDesc.struct #[{ name := "Letter", type := 5, offset := 0, embedded := false, tag := "", pkgPath := "", byteOffset := 0 }, { name := "Args", type := 26, offset := 1, embedded := false, tag := "", pkgPath := "", byteOffset := 8 }]) }
def i148 : TI := { sz := 2, bytes := 32, zero := some (Dat.agg [(Dat.int IntKind.u8 0), Dat.nils]), und := (TypeDesc.struct #[{ name := "Letter", type := 5, offset := 0, embedded := false, tag := "", pkgPath := "", byteOffset := 0 }, { name := "Args", type := 26, offset := 1, embedded := false, tag := "", pkgPath := "", byteOffset := 8 }]) }
def i149 : TI := { sz := 1, bytes := 8, zero := some Dat.nilf, und := (TypeDesc.func #[24] #[146] false) }
def i150 : TI := { sz := 1, bytes := 8, zero := some Dat.nilf, und := (TypeDesc.func #[146] #[9] false) }
def i151 : TI := { sz := 1, bytes := 4, zero := some (Dat.int IntKind.u32 0), und := (TypeDesc.int IntKind.u32) }
def i152 : TI := { sz := 5, bytes := 20, zero := some (Dat.agg [(Dat.int IntKind.u32 0), (Dat.int IntKind.u32 0), (Dat.int IntKind.u32 0), (Dat.int IntKind.u32 0), (Dat.int IntKind.u32 0)]), und := (TypeDesc.array 5 151) }
def i153 : TI := { sz := 1, bytes := 8, zero := some (Dat.int IntKind.u64 0), und := (TypeDesc.int IntKind.u64) }
def i154 : TI := { sz := 1, bytes := 8, zero := some (Dat.int IntKind.u64 0), und := (TypeDesc.int IntKind.u64) }
def i155 : TI := { sz := 1, bytes := 8, zero := some Dat.nilf, und := (TypeDesc.func #[152, 73] #[152] false) }
def i156 : TI := { sz := 1, bytes := 8, zero := some Dat.nilm, und := (TypeDesc.map 167 45) }
def i157 : TI := { sz := 1, bytes := 8, zero := some Dat.nilm, und := (TypeDesc.map 9 28) }
def i158 : TI := { sz := 2, bytes := 16, zero := some (Dat.agg [Dat.nilm, Dat.nilm]), und := (TypeDesc.struct #[{ name := "last", type := 156, offset := 0, embedded := false, tag := "", pkgPath := "ammonite/tags", byteOffset := 0 }, { name := "checkins", type := 157, offset := 1, embedded := false, tag := "", pkgPath := "ammonite/tags", byteOffset := 8 }]) }
def i159 : TI := { sz := 2, bytes := 16, zero := some (Dat.agg [Dat.nilm, Dat.nilm]), und := (TypeDesc.struct #[{ name := "last", type := 156, offset := 0, embedded := false, tag := "", pkgPath := "ammonite/tags", byteOffset := 0 }, { name := "checkins", type := 157, offset := 1, embedded := false, tag := "", pkgPath := "ammonite/tags", byteOffset := 8 }]) }
def i160 : TI := { sz := 1, bytes := 8, zero := some Dat.nilf, und := (TypeDesc.func #[31] #[159] false) }
def i161 : TI := { sz := 1, bytes := 8, zero := some Dat.nilf, und := (TypeDesc.func #[9, 9] #[33, 4] false) }
def i162 : TI := { sz := 1, bytes := 8, zero := some Dat.nilf, und := (TypeDesc.func #[] #[26] false) }
def i163 : TI := { sz := 1, bytes := 8, zero := some Dat.nilf, und := (TypeDesc.func #[68] #[26] false) }
def i164 : TI := { sz := 1, bytes := 8, zero := some Dat.nilf, und := (TypeDesc.func #[157] #[68] false) }
def i165 : TI := { sz := 1, bytes := 0, zero := none, und := (TypeDesc.tuple #[31, 26]) }
def i166 : TI := { sz := 1, bytes := 8, zero := some Dat.nilf, und := (TypeDesc.func #[24] #[31, 26] true) }
def i167 : TI := { sz := 2, bytes := 32, zero := some (Dat.agg [(Dat.str []), (Dat.str [])]), und := (TypeDesc.array 2 9) }
def i168 : TI := { sz := 1, bytes := 8, zero := some Dat.nilf, und := (TypeDesc.func #[26, 3] #[26] false) }
def i169 : TI := { sz := 5, bytes := 56, zero := some (Dat.agg [Dat.nils, (Dat.bool false), (Dat.int IntKind.i64 0), (Dat.int IntKind.i64 0), (Dat.bool false)]), und := (TypeDesc.struct #[{ name := "sectors", type := 26, offset := 0, embedded := false, tag := "", pkgPath := "ammonite/disk", byteOffset := 0 }, { name := "armed", type := 4, offset := 1, embedded := false, tag := "", pkgPath := "ammonite/disk", byteOffset := 24 }, { name := "left", type := 3, offset := 2, embedded := false, tag := "", pkgPath := "ammonite/disk", byteOffset := 32 }, { name := "keep", type := 3, offset := 3, embedded := false, tag := "", pkgPath := "ammonite/disk", byteOffset := 40 }, { name := "down", type := 4, offset := 4, embedded := false, tag := "", pkgPath := "ammonite/disk", byteOffset := 48 }]) }
def i170 : TI := { sz := 5, bytes := 56, zero := some (Dat.agg [Dat.nils, (Dat.bool false), (Dat.int IntKind.i64 0), (Dat.int IntKind.i64 0), (Dat.bool false)]), und := (TypeDesc.struct #[{ name := "sectors", type := 26, offset := 0, embedded := false, tag := "", pkgPath := "ammonite/disk", byteOffset := 0 }, { name := "armed", type := 4, offset := 1, embedded := false, tag := "", pkgPath := "ammonite/disk", byteOffset := 24 }, { name := "left", type := 3, offset := 2, embedded := false, tag := "", pkgPath := "ammonite/disk", byteOffset := 32 }, { name := "keep", type := 3, offset := 3, embedded := false, tag := "", pkgPath := "ammonite/disk", byteOffset := 40 }, { name := "down", type := 4, offset := 4, embedded := false, tag := "", pkgPath := "ammonite/disk", byteOffset := 48 }]) }
def i171 : TI := { sz := 1, bytes := 8, zero := some Dat.nilp, und := (TypeDesc.pointer 249) }
def i172 : TI := { sz := 1, bytes := 8, zero := some Dat.nilf, und := (TypeDesc.func #[50] #[171] false) }
def i173 : TI := { sz := 2, bytes := 16, zero := some (Dat.agg [Dat.nilp, Dat.nilp]), und := (TypeDesc.struct #[{ name := "d", type := 50, offset := 0, embedded := false, tag := "", pkgPath := "ammonite/bag", byteOffset := 0 }, { name := "s", type := 171, offset := 1, embedded := false, tag := "", pkgPath := "ammonite/bag", byteOffset := 8 }]) }
def i174 : TI := { sz := 2, bytes := 16, zero := some (Dat.agg [Dat.nilp, Dat.nilp]), und := (TypeDesc.struct #[{ name := "d", type := 50, offset := 0, embedded := false, tag := "", pkgPath := "ammonite/bag", byteOffset := 0 }, { name := "s", type := 171, offset := 1, embedded := false, tag := "", pkgPath := "ammonite/bag", byteOffset := 8 }]) }
def i175 : TI := { sz := 1, bytes := 8, zero := some Dat.nilf, und := (TypeDesc.func #[9] #[4] false) }
def i176 : TI := { sz := 1, bytes := 8, zero := some Dat.nilf, und := (TypeDesc.func #[9, 9] #[4] false) }
def i177 : TI := { sz := 1, bytes := 8, zero := some Dat.nilf, und := (TypeDesc.func #[68] #[3] false) }
def i178 : TI := { sz := 1, bytes := 24, zero := some Dat.nils, und := (TypeDesc.slice 181) }
def i179 : TI := { sz := 1, bytes := 8, zero := some Dat.nilf, und := (TypeDesc.func #[171, 9] #[178] false) }
def i180 : TI := { sz := 3, bytes := 40, zero := some (Dat.agg [(Dat.str []), (Dat.str []), (Dat.bool false)]), und := (TypeDesc.struct #[{ name := "Key", type := 9, offset := 0, embedded := false, tag := "", pkgPath := "", byteOffset := 0 }, { name := "Value", type := 9, offset := 1, embedded := false, tag := "", pkgPath := "", byteOffset := 16 }, { name := "Gone", type := 4, offset := 2, embedded := false, tag := "", pkgPath := "", byteOffset := 32 }]) }
def i181 : TI := { sz := 3, bytes := 40, zero := some (Dat.agg [(Dat.str []), (Dat.str []), (Dat.bool false)]), und := (TypeDesc.struct #[{ name := "Key", type := 9, offset := 0, embedded := false, tag := "", pkgPath := "", byteOffset := 0 }, { name := "Value", type := 9, offset := 1, embedded := false, tag := "", pkgPath := "", byteOffset := 16 }, { name := "Gone", type := 4, offset := 2, embedded := false, tag := "", pkgPath := "", byteOffset := 32 }]) }
def i182 : TI := { sz := 1, bytes := 8, zero := some Dat.nilf, und := (TypeDesc.func #[178] #[54] true) }
def i183 : TI := { sz := 1, bytes := 8, zero := some Dat.nilf, und := (TypeDesc.func #[9] #[68] false) }
def i184 : TI := { sz := 1, bytes := 8, zero := some Dat.nilf, und := (TypeDesc.func #[171] #[4] false) }
def i185 : TI := { sz := 1, bytes := 8, zero := some Dat.nilf, und := (TypeDesc.func #[64] #[54] false) }
def i186 : TI := { sz := 1, bytes := 8, zero := some Dat.nilf, und := (TypeDesc.func #[171, 9, 9, 9] #[181] false) }
def i187 : TI := { sz := 1, bytes := 8, zero := some Dat.nilf, und := (TypeDesc.func #[171] #[68] false) }
def i188 : TI := { sz := 1, bytes := 8, zero := some Dat.nilf, und := (TypeDesc.func #[171, 9] #[9, 4] false) }
def i189 : TI := { sz := 1, bytes := 8, zero := some Dat.nilf, und := (TypeDesc.func #[9] #[73] false) }
def i190 : TI := { sz := 1, bytes := 8, zero := some Dat.nilf, und := (TypeDesc.func #[191, 73] #[] false) }
def i191 : TI := { sz := 1, bytes := 8, zero := some Dat.nilp, und := (TypeDesc.pointer 152) }
def i192 : TI := { sz := 1, bytes := 8, zero := some Dat.nilf, und := (TypeDesc.func #[194, 3] #[9] false) }
def i193 : TI := { sz := 2, bytes := 32, zero := some (Dat.agg [(Dat.int IntKind.i64 0), Dat.nils]), und := (TypeDesc.struct #[{ name := "Seed", type := 3, offset := 0, embedded := false, tag := "", pkgPath := "", byteOffset := 0 }, { name := "Ops", type := 61, offset := 1, embedded := false, tag := "", pkgPath := "", byteOffset := 8 }]) }
def i194 : TI := { sz := 2, bytes := 32, zero := some (Dat.agg [(Dat.int IntKind.i64 0), Dat.nils]), und := (TypeDesc.struct #[{ name := "Seed", type := 3, offset := 0, embedded := false, tag := "", pkgPath := "", byteOffset := 0 }, { name := "Ops", type := 61, offset := 1, embedded := false, tag := "", pkgPath := "", byteOffset := 8 }]) }
def i195 : TI := { sz := 1, bytes := 8, zero := some Dat.nilf, und := (TypeDesc.func #[97, 198] #[] false) }
def i196 : TI := { sz := 1, bytes := 8, zero := some Dat.nilf, und := (TypeDesc.func #[61] #[3] true) }
def i197 : TI := { sz := 1, bytes := 8, zero := some Dat.nilf, und := (TypeDesc.func #[9, 9] #[3] false) }
def i198 : TI := { sz := 1, bytes := 8, zero := some Dat.nilf, und := (TypeDesc.func #[102, 102] #[3] false) }
def i199 : TI := { sz := 1, bytes := 0, zero := none, und := (TypeDesc.tuple #[25, 4]) }
def i200 : TI := { sz := 1, bytes := 8, zero := some Dat.nilf, und := (TypeDesc.func #[31, 9] #[25, 4] false) }
def i201 : TI := { sz := 1, bytes := 8, zero := some Dat.nilf, und := (TypeDesc.func #[25, 25] #[99] false) }
def i202 : TI := { sz := 9, bytes := 152, zero := some (Dat.agg [(Dat.int IntKind.i64 0), (Dat.int IntKind.i64 0), (Dat.int IntKind.i64 0), (Dat.int IntKind.i64 0), Dat.nils, Dat.nils, Dat.nils, Dat.nils, Dat.nils]), und := (TypeDesc.struct #[{ name := "Base", type := 3, offset := 0, embedded := false, tag := "", pkgPath := "", byteOffset := 0 }, { name := "Date", type := 3, offset := 1, embedded := false, tag := "", pkgPath := "", byteOffset := 8 }, { name := "User", type := 3, offset := 2, embedded := false, tag := "", pkgPath := "", byteOffset := 16 }, { name := "Comment", type := 194, offset := 3, embedded := false, tag := "", pkgPath := "", byteOffset := 24 }, { name := "Files", type := 61, offset := 5, embedded := false, tag := "", pkgPath := "", byteOffset := 56 }, { name := "Parents", type := 61, offset := 6, embedded := false, tag := "", pkgPath := "", byteOffset := 80 }, { name := "Tags", type := 61, offset := 7, embedded := false, tag := "", pkgPath := "", byteOffset := 104 }, { name := "Vals", type := 61, offset := 8, embedded := false, tag := "", pkgPath := "", byteOffset := 128 }]) }
def i203 : TI := { sz := 9, bytes := 152, zero := some (Dat.agg [(Dat.int IntKind.i64 0), (Dat.int IntKind.i64 0), (Dat.int IntKind.i64 0), (Dat.int IntKind.i64 0), Dat.nils, Dat.nils, Dat.nils, Dat.nils, Dat.nils]), und := (TypeDesc.struct #[{ name := "Base", type := 3, offset := 0, embedded := false, tag := "", pkgPath := "", byteOffset := 0 }, { name := "Date", type := 3, offset := 1, embedded := false, tag := "", pkgPath := "", byteOffset := 8 }, { name := "User", type := 3, offset := 2, embedded := false, tag := "", pkgPath := "", byteOffset := 16 }, { name := "Comment", type := 194, offset := 3, embedded := false, tag := "", pkgPath := "", byteOffset := 24 }, { name := "Files", type := 61, offset := 5, embedded := false, tag := "", pkgPath := "", byteOffset := 56 }, { name := "Parents", type := 61, offset := 6, embedded := false, tag := "", pkgPath := "", byteOffset := 80 }, { name := "Tags", type := 61, offset := 7, embedded := false, tag := "", pkgPath := "", byteOffset := 104 }, { name := "Vals", type := 61, offset := 8, embedded := false, tag := "", pkgPath := "", byteOffset := 128 }]) }
def i204 : TI := { sz := 4, bytes := 64, zero := some (Dat.agg [(Dat.int IntKind.i64 0), (Dat.int IntKind.i64 0), Dat.nils, Dat.nils]), und := (TypeDesc.struct #[{ name := "Date", type := 3, offset := 0, embedded := false, tag := "", pkgPath := "", byteOffset := 0 }, { name := "User", type := 3, offset := 1, embedded := false, tag := "", pkgPath := "", byteOffset := 8 }, { name := "Tags", type := 61, offset := 2, embedded := false, tag := "", pkgPath := "", byteOffset := 16 }, { name := "Vals", type := 61, offset := 3, embedded := false, tag := "", pkgPath := "", byteOffset := 40 }]) }
def i205 : TI := { sz := 4, bytes := 64, zero := some (Dat.agg [(Dat.int IntKind.i64 0), (Dat.int IntKind.i64 0), Dat.nils, Dat.nils]), und := (TypeDesc.struct #[{ name := "Date", type := 3, offset := 0, embedded := false, tag := "", pkgPath := "", byteOffset := 0 }, { name := "User", type := 3, offset := 1, embedded := false, tag := "", pkgPath := "", byteOffset := 8 }, { name := "Tags", type := 61, offset := 2, embedded := false, tag := "", pkgPath := "", byteOffset := 16 }, { name := "Vals", type := 61, offset := 3, embedded := false, tag := "", pkgPath := "", byteOffset := 40 }]) }
def i206 : TI := { sz := 16, bytes := 256, zero := some (Dat.agg [(Dat.int IntKind.i64 0), (Dat.int IntKind.i64 0), (Dat.int IntKind.i64 0), (Dat.int IntKind.i64 0), (Dat.int IntKind.i64 0), (Dat.int IntKind.i64 0), Dat.nils, Dat.nils, Dat.nils, Dat.nils, Dat.nils, (Dat.int IntKind.i64 0), (Dat.int IntKind.i64 0), Dat.nils, Dat.nils, Dat.nils]), und := (TypeDesc.struct #[{ name := "Kind", type := 3, offset := 0, embedded := false, tag := "", pkgPath := "", byteOffset := 0 }, { name := "N", type := 3, offset := 1, embedded := false, tag := "", pkgPath := "", byteOffset := 8 }, { name := "Checkin", type := 203, offset := 2, embedded := false, tag := "", pkgPath := "", byteOffset := 16 }, { name := "Control", type := 205, offset := 11, embedded := false, tag := "", pkgPath := "", byteOffset := 168 }, { name := "Names", type := 61, offset := 15, embedded := false, tag := "", pkgPath := "", byteOffset := 232 }]) }
def i207 : TI := { sz := 16, bytes := 256, zero := some (Dat.agg [(Dat.int IntKind.i64 0), (Dat.int IntKind.i64 0), (Dat.int IntKind.i64 0), (Dat.int IntKind.i64 0), (Dat.int IntKind.i64 0), (Dat.int IntKind.i64 0), Dat.nils, Dat.nils, Dat.nils, Dat.nils, Dat.nils, (Dat.int IntKind.i64 0), (Dat.int IntKind.i64 0), Dat.nils, Dat.nils, Dat.nils]), und := (TypeDesc.struct #[{ name := "Kind", type := 3, offset := 0, embedded := false, tag := "", pkgPath := "", byteOffset := 0 }, { name := "N", type := 3, offset := 1, embedded := false, tag := "", pkgPath := "", byteOffset := 8 }, { name := "Checkin", type := 203, offset := 2, embedded := false, tag := "", pkgPath := "", byteOffset := 16 }, { name := "Control", type := 205, offset := 11, embedded := false, tag := "", pkgPath := "", byteOffset := 168 }, { name := "Names", type := 61, offset := 15, embedded := false, tag := "", pkgPath := "", byteOffset := 232 }]) }
def i208 : TI := { sz := 1, bytes := 8, zero := some Dat.nilf, und := (TypeDesc.func #[] #[9] false) }
def i209 : TI := { sz := 1, bytes := 8, zero := some Dat.nilf, und := (TypeDesc.func #[26] #[9] false) }
def i210 : TI := { sz := 1, bytes := 8, zero := some Dat.nilf, und := (TypeDesc.func #[9, 28] #[4] false) }
def i211 : TI := { sz := 1, bytes := 8, zero := some Dat.nilf, und := (TypeDesc.func #[31] #[68] false) }
def i212 : TI := { sz := 1, bytes := 0, zero := none, und := (TypeDesc.tuple #[146, 4]) }
def i213 : TI := { sz := 1, bytes := 8, zero := some Dat.nilf, und := (TypeDesc.func #[9] #[146, 4] false) }
def i214 : TI := { sz := 1, bytes := 0, zero := none, und := (TypeDesc.tuple #[24, 4]) }
def i215 : TI := { sz := 1, bytes := 8, zero := some Dat.nilf, und := (TypeDesc.func #[146] #[24, 4] false) }
def i216 : TI := { sz := 1, bytes := 8, zero := some Dat.nilf, und := (TypeDesc.func #[9] #[3] false) }
def i217 : TI := { sz := 1, bytes := 8, zero := some Dat.nilf, und := (TypeDesc.func #[28] #[4] false) }
def i218 : TI := { sz := 1, bytes := 8, zero := some Dat.nilf, und := (TypeDesc.func #[25, 25] #[4] false) }
def i219 : TI := { sz := 1, bytes := 8, zero := some Dat.nilf, und := (TypeDesc.func #[24, 24] #[4] false) }
def i220 : TI := { sz := 1, bytes := 8, zero := some Dat.nilf, und := (TypeDesc.func #[159, 9] #[9] false) }
def i221 : TI := { sz := 1, bytes := 8, zero := some Dat.nilf, und := (TypeDesc.func #[126, 222] #[] false) }
def i222 : TI := { sz := 1, bytes := 8, zero := some Dat.nilf, und := (TypeDesc.func #[125, 125] #[3] false) }
def i223 : TI := { sz := 1, bytes := 8, zero := some Dat.nilf, und := (TypeDesc.func #[126, 224] #[4] false) }
def i224 : TI := { sz := 1, bytes := 8, zero := some Dat.nilf, und := (TypeDesc.func #[125] #[4] false) }
def i225 : TI := { sz := 1, bytes := 8, zero := some Dat.nilf, und := (TypeDesc.func #[9, 26] #[4] false) }
def i226 : TI := { sz := 1, bytes := 8, zero := some Dat.nilm, und := (TypeDesc.map 9 26) }
def i227 : TI := { sz := 1, bytes := 8, zero := some Dat.nilf, und := (TypeDesc.func #[26] #[] false) }
def i228 : TI := { sz := 6, bytes := 112, zero := some (Dat.agg [Dat.nilm, Dat.nils, Dat.nils, Dat.nils, Dat.nils, (Dat.bool false)]), und := (TypeDesc.struct #[{ name := "held", type := 31, offset := 0, embedded := false, tag := "", pkgPath := "ammonite/derive", byteOffset := 0 }, { name := "tables", type := 138, offset := 1, embedded := false, tag := "", pkgPath := "ammonite/derive", byteOffset := 8 }, { name := "stale", type := 4, offset := 5, embedded := false, tag := "", pkgPath := "ammonite/derive", byteOffset := 104 }]) }
def i229 : TI := { sz := 6, bytes := 112, zero := some (Dat.agg [Dat.nilm, Dat.nils, Dat.nils, Dat.nils, Dat.nils, (Dat.bool false)]), und := (TypeDesc.struct #[{ name := "held", type := 31, offset := 0, embedded := false, tag := "", pkgPath := "ammonite/derive", byteOffset := 0 }, { name := "tables", type := 138, offset := 1, embedded := false, tag := "", pkgPath := "ammonite/derive", byteOffset := 8 }, { name := "stale", type := 4, offset := 5, embedded := false, tag := "", pkgPath := "ammonite/derive", byteOffset := 104 }]) }
def i230 : TI := { sz := 1, bytes := 8, zero := some Dat.nilf, und := (TypeDesc.func #[97] #[97] false) }
def i231 : TI := { sz := 1, bytes := 8, zero := some Dat.nilf, und := (TypeDesc.func #[99] #[99] false) }
def i232 : TI := { sz := 1, bytes := 8, zero := some Dat.nilf, und := (TypeDesc.func #[36] #[36] false) }
def i233 : TI := { sz := 1, bytes := 8, zero := some Dat.nilf, und := (TypeDesc.func #[126] #[126] false) }
def i234 : TI := { sz := 1, bytes := 8, zero := some Dat.nilf, und := (TypeDesc.func #[36, 36] #[4] false) }
def i235 : TI := { sz := 1, bytes := 8, zero := some Dat.nilf, und := (TypeDesc.func #[31] #[31] false) }
def i236 : TI := { sz := 80, bytes := 320, zero := some (Dat.agg [(Dat.int IntKind.u32 0), (Dat.int IntKind.u32 0), (Dat.int IntKind.u32 0), (Dat.int IntKind.u32 0), (Dat.int IntKind.u32 0), (Dat.int IntKind.u32 0), (Dat.int IntKind.u32 0), (Dat.int IntKind.u32 0), (Dat.int IntKind.u32 0), (Dat.int IntKind.u32 0), (Dat.int IntKind.u32 0), (Dat.int IntKind.u32 0), (Dat.int IntKind.u32 0), (Dat.int IntKind.u32 0), (Dat.int IntKind.u32 0), (Dat.int IntKind.u32 0), (Dat.int IntKind.u32 0), (Dat.int IntKind.u32 0), (Dat.int IntKind.u32 0), (Dat.int IntKind.u32 0), (Dat.int IntKind.u32 0), (Dat.int IntKind.u32 0), (Dat.int IntKind.u32 0), (Dat.int IntKind.u32 0), (Dat.int IntKind.u32 0), (Dat.int IntKind.u32 0), (Dat.int IntKind.u32 0), (Dat.int IntKind.u32 0), (Dat.int IntKind.u32 0), (Dat.int IntKind.u32 0), (Dat.int IntKind.u32 0), (Dat.int IntKind.u32 0), (Dat.int IntKind.u32 0), (Dat.int IntKind.u32 0), (Dat.int IntKind.u32 0), (Dat.int IntKind.u32 0), (Dat.int IntKind.u32 0), (Dat.int IntKind.u32 0), (Dat.int IntKind.u32 0), (Dat.int IntKind.u32 0), (Dat.int IntKind.u32 0), (Dat.int IntKind.u32 0), (Dat.int IntKind.u32 0), (Dat.int IntKind.u32 0), (Dat.int IntKind.u32 0), (Dat.int IntKind.u32 0), (Dat.int IntKind.u32 0), (Dat.int IntKind.u32 0), (Dat.int IntKind.u32 0), (Dat.int IntKind.u32 0), (Dat.int IntKind.u32 0), (Dat.int IntKind.u32 0), (Dat.int IntKind.u32 0), (Dat.int IntKind.u32 0), (Dat.int IntKind.u32 0), (Dat.int IntKind.u32 0), (Dat.int IntKind.u32 0), (Dat.int IntKind.u32 0), (Dat.int IntKind.u32 0), (Dat.int IntKind.u32 0), (Dat.int IntKind.u32 0), (Dat.int IntKind.u32 0), (Dat.int IntKind.u32 0), (Dat.int IntKind.u32 0), (Dat.int IntKind.u32 0), (Dat.int IntKind.u32 0), (Dat.int IntKind.u32 0), (Dat.int IntKind.u32 0), (Dat.int IntKind.u32 0), (Dat.int IntKind.u32 0), (Dat.int IntKind.u32 0), (Dat.int IntKind.u32 0), (Dat.int IntKind.u32 0), (Dat.int IntKind.u32 0), (Dat.int IntKind.u32 0), (Dat.int IntKind.u32 0), (Dat.int IntKind.u32 0), (Dat.int IntKind.u32 0), (Dat.int IntKind.u32 0), (Dat.int IntKind.u32 0)]), und := (TypeDesc.array 80 151) }
def i237 : TI := { sz := 1, bytes := 8, zero := some Dat.nilf, und := (TypeDesc.func #[151, 154] #[151] false) }
def i238 : TI := { sz := 1, bytes := 8, zero := some Dat.nilf, und := (TypeDesc.func #[111] #[157] false) }
def i239 : TI := { sz := 1, bytes := 8, zero := some Dat.nilf, und := (TypeDesc.func #[296] #[] false) }
def i240 : TI := { sz := 1, bytes := 8, zero := some Dat.nilf, und := (TypeDesc.func #[296] #[] false) }
def i241 : TI := { sz := 1, bytes := 8, zero := some Dat.nilf, und := (TypeDesc.func #[31] #[240] false) }
def i242 : TI := { sz := 1, bytes := 8, zero := some Dat.nilf, und := (TypeDesc.func #[26] #[26] false) }
def i243 : TI := { sz := 1, bytes := 0, zero := none, und := (TypeDesc.tuple #[154, 154]) }
def i244 : TI := { sz := 1, bytes := 8, zero := some Dat.nilf, und := (TypeDesc.func #[154, 154] #[154, 154] false) }
def i245 : TI := { sz := 1, bytes := 8, zero := some Dat.nilf, und := (TypeDesc.func #[9, 3] #[9] false) }
def i246 : TI := { sz := 1, bytes := 8, zero := some Dat.nilp, und := (TypeDesc.pointer 313) }
def i247 : TI := { sz := 1, bytes := 8, zero := some Dat.nilf, und := (TypeDesc.func #[50] #[246] false) }
def i248 : TI := { sz := 2, bytes := 16, zero := some (Dat.agg [Dat.nilp, Dat.nilm]), und := (TypeDesc.struct #[{ name := "j", type := 246, offset := 0, embedded := false, tag := "", pkgPath := "ammonite/store", byteOffset := 0 }, { name := "rows", type := 31, offset := 1, embedded := false, tag := "", pkgPath := "ammonite/store", byteOffset := 8 }]) }
def i249 : TI := { sz := 2, bytes := 16, zero := some (Dat.agg [Dat.nilp, Dat.nilm]), und := (TypeDesc.struct #[{ name := "j", type := 246, offset := 0, embedded := false, tag := "", pkgPath := "ammonite/store", byteOffset := 0 }, { name := "rows", type := 31, offset := 1, embedded := false, tag := "", pkgPath := "ammonite/store", byteOffset := 8 }]) }
def i250 : TI := { sz := 1, bytes := 0, zero := none, und := (TypeDesc.tuple #[178, 4]) }
def i251 : TI := { sz := 1, bytes := 8, zero := some Dat.nilf, und := (TypeDesc.func #[9] #[178, 4] false) }
def i252 : TI := { sz := 1, bytes := 8, zero := some Dat.nilf, und := (TypeDesc.func #[178] #[] false) }
def i253 : TI := { sz := 1, bytes := 8, zero := some Dat.nilf, und := (TypeDesc.func #[9, 5] #[3] false) }
def i254 : TI := { sz := 1, bytes := 0, zero := none, und := (TypeDesc.tuple #[9, 9, 4]) }
def i255 : TI := { sz := 1, bytes := 8, zero := some Dat.nilf, und := (TypeDesc.func #[171, 9] #[9, 9, 4] false) }
def i256 : TI := { sz := 1, bytes := 8, zero := some Dat.nilf, und := (TypeDesc.func #[176] #[] false) }
def i257 : TI := { sz := 1, bytes := 8, zero := some Dat.nilf, und := (TypeDesc.func #[176] #[] false) }
def i258 : TI := { sz := 1, bytes := 8, zero := some Dat.nilf, und := (TypeDesc.func #[9] #[257] false) }
def i259 : TI := { sz := 1, bytes := 8, zero := some Dat.nilf, und := (TypeDesc.func #[171, 9] #[3] false) }
def i260 : TI := { sz := 1, bytes := 8, zero := some Dat.nilf, und := (TypeDesc.func #[171, 9, 9] #[4] false) }
def i261 : TI := { sz := 1, bytes := 8, zero := some Dat.nilf, und := (TypeDesc.func #[9, 9] #[9] false) }
def i262 : TI := { sz := 1, bytes := 8, zero := some Dat.nilf, und := (TypeDesc.func #[9, 9] #[9, 4] false) }
def i263 : TI := { sz := 1, bytes := 8, zero := some Dat.nilf, und := (TypeDesc.func #[73] #[236] false) }
def i264 : TI := { sz := 1, bytes := 0, zero := none, und := (TypeDesc.tuple #[151, 151]) }
def i265 : TI := { sz := 1, bytes := 8, zero := some Dat.nilf, und := (TypeDesc.func #[3, 151, 151, 151] #[151, 151] false) }
def i266 : TI := { sz := 1, bytes := 8, zero := some Dat.nilf, und := (TypeDesc.func #[151, 3] #[151] false) }
def i267 : TI := { sz := 1, bytes := 8, zero := some Dat.nilf, und := (TypeDesc.func #[97, 3, 3, 3, 198] #[] false) }
def i268 : TI := { sz := 1, bytes := 8, zero := some Dat.nilf, und := (TypeDesc.func #[154] #[3] false) }
def i269 : TI := { sz := 1, bytes := 0, zero := none, und := (TypeDesc.tuple #[3, 4]) }
def i270 : TI := { sz := 1, bytes := 8, zero := some Dat.nilf, und := (TypeDesc.func #[25, 9] #[3, 4] false) }
def i271 : TI := { sz := 1, bytes := 8, zero := some Dat.nilf, und := (TypeDesc.func #[338] #[25] true) }
def i272 : TI := { sz := 1, bytes := 24, zero := some Dat.nils, und := (TypeDesc.slice 341) }
def i273 : TI := { sz := 1, bytes := 0, zero := none, und := (TypeDesc.tuple #[272, 4]) }
def i274 : TI := { sz := 1, bytes := 8, zero := some Dat.nilf, und := (TypeDesc.func #[9] #[272, 4] false) }
def i275 : TI := { sz := 1, bytes := 8, zero := some Dat.nilf, und := (TypeDesc.func #[272, 5] #[9, 4] false) }
def i276 : TI := { sz := 1, bytes := 8, zero := some Dat.nilf, und := (TypeDesc.func #[9] #[3, 4] false) }
def i277 : TI := { sz := 1, bytes := 8, zero := some Dat.nilf, und := (TypeDesc.func #[272] #[24, 4] false) }
def i278 : TI := { sz := 1, bytes := 8, zero := some Dat.nilf, und := (TypeDesc.func #[344] #[] false) }
def i279 : TI := { sz := 1, bytes := 8, zero := some Dat.nilf, und := (TypeDesc.func #[344] #[] false) }
def i280 : TI := { sz := 1, bytes := 8, zero := some Dat.nilf, und := (TypeDesc.func #[272, 5] #[279] false) }
def i281 : TI := { sz := 1, bytes := 0, zero := none, und := (TypeDesc.tuple #[26, 3]) }
def i282 : TI := { sz := 1, bytes := 8, zero := some Dat.nilf, und := (TypeDesc.func #[272, 5] #[26, 3] false) }
def i283 : TI := { sz := 1, bytes := 8, zero := some Dat.nilf, und := (TypeDesc.func #[] #[28] false) }
def i284 : TI := { sz := 1, bytes := 8, zero := some Dat.nilf, und := (TypeDesc.func #[] #[43] false) }
def i285 : TI := { sz := 1, bytes := 8, zero := some Dat.nilf, und := (TypeDesc.func #[61, 3] #[3] false) }
def i286 : TI := { sz := 1, bytes := 8, zero := some Dat.nilf, und := (TypeDesc.func #[9] #[26] false) }
def i287 : TI := { sz := 1, bytes := 8, zero := some Dat.nilf, und := (TypeDesc.func #[24, 4] #[4] false) }
def i288 : TI := { sz := 1, bytes := 8, zero := some Dat.nilf, und := (TypeDesc.func #[126, 3, 3, 3, 222] #[] false) }
def i289 : TI := { sz := 1, bytes := 8, zero := some Dat.nilf, und := (TypeDesc.func #[126, 224] #[3] false) }
def i290 : TI := { sz := 7, bytes := 88, zero := some (Dat.agg [(Dat.int IntKind.u8 0), (Dat.str []), (Dat.str []), (Dat.str []), (Dat.int IntKind.i64 0), (Dat.str []), (Dat.bool false)]), und := (TypeDesc.struct #[{ name := "op", type := 23, offset := 0, embedded := false, tag := "", pkgPath := "ammonite/ammoniteref17", byteOffset := 0 }, { name := "date", type := 3, offset := 4, embedded := false, tag := "", pkgPath := "ammonite/ammoniteref17", byteOffset := 56 }, { name := "source", type := 9, offset := 5, embedded := false, tag := "", pkgPath := "ammonite/ammoniteref17", byteOffset := 64 }, { name := "ok", type := 4, offset := 6, embedded := false, tag := "", pkgPath := "ammonite/ammoniteref17", byteOffset := 80 }]) }
def i291 : TI := { sz := 7, bytes := 88, zero := some (Dat.agg [(Dat.int IntKind.u8 0), (Dat.str []), (Dat.str []), (Dat.str []), (Dat.int IntKind.i64 0), (Dat.str []), (Dat.bool false)]), und := (TypeDesc.struct #[{ name := "op", type := 23, offset := 0, embedded := false, tag := "", pkgPath := "ammonite/ammoniteref17", byteOffset := 0 }, { name := "date", type := 3, offset := 4, embedded := false, tag := "", pkgPath := "ammonite/ammoniteref17", byteOffset := 56 }, { name := "source", type := 9, offset := 5, embedded := false, tag := "", pkgPath := "ammonite/ammoniteref17", byteOffset := 64 }, { name := "ok", type := 4, offset := 6, embedded := false, tag := "", pkgPath := "ammonite/ammoniteref17", byteOffset := 80 }]) }
def i292 : TI := { sz := 1, bytes := 8, zero := some Dat.nilf, und := (TypeDesc.func #[31, 9, 9] #[291] false) }
def i293 : TI := { sz := 1, bytes := 8, zero := some Dat.nilf, und := (TypeDesc.func #[26, 3, 3, 3] #[] false) }
def i294 : TI := { sz := 1, bytes := 8, zero := some Dat.nilf, und := (TypeDesc.func #[20] #[20] false) }
def i295 : TI := { sz := 1, bytes := 8, zero := some Dat.nilf, und := (TypeDesc.func #[157, 111] #[] false) }
def i296 : TI := { sz := 1, bytes := 8, zero := some Dat.nilf, und := (TypeDesc.func #[45] #[4] false) }
def i297 : TI := { sz := 1, bytes := 0, zero := none, und := (TypeDesc.tuple #[24, 3]) }
def i298 : TI := { sz := 1, bytes := 8, zero := some Dat.nilf, und := (TypeDesc.func #[9, 9] #[24, 3] false) }
def i299 : TI := { sz := 1, bytes := 8, zero := some Dat.nilf, und := (TypeDesc.func #[26, 68] #[26] false) }
def i300 : TI := { sz := 1, bytes := 8, zero := some Dat.nilf, und := (TypeDesc.func #[151, 151] #[151, 151] false) }
def i301 : TI := { sz := 1, bytes := 0, zero := none, und := (TypeDesc.tuple #[153, 153]) }
def i302 : TI := { sz := 1, bytes := 8, zero := some Dat.nilf, und := (TypeDesc.func #[153, 153] #[153, 153] false) }
def i303 : TI := { sz := 1, bytes := 8, zero := some Dat.nilp, und := (TypeDesc.pointer 305) }
def i304 : TI := { sz := 2, bytes := 32, zero := some (Dat.agg [Dat.nilp, Dat.nils]), und := (TypeDesc.struct #[{ name := "addr", type := 303, offset := 0, embedded := false, tag := "", pkgPath := "strings", byteOffset := 0 }, { name := "buf", type := 73, offset := 1, embedded := false, tag := "", pkgPath := "strings", byteOffset := 8 }]) }
def i305 : TI := { sz := 2, bytes := 32, zero := some (Dat.agg [Dat.nilp, Dat.nils]), und := (TypeDesc.struct #[{ name := "addr", type := 303, offset := 0, embedded := false, tag := "", pkgPath := "strings", byteOffset := 0 }, { name := "buf", type := 73, offset := 1, embedded := false, tag := "", pkgPath := "strings", byteOffset := 8 }]) }
def i306 : TI := { sz := 1, bytes := 8, zero := some Dat.nilf, und := (TypeDesc.func #[3] #[] false) }
def i307 : TI := { sz := 1, bytes := 16, zero := some Dat.nili, und := (TypeDesc.interface #[("Error", 208)]) }
def i308 : TI := { sz := 1, bytes := 16, zero := some Dat.nili, und := (TypeDesc.interface #[("Error", 208)]) }
def i309 : TI := { sz := 1, bytes := 0, zero := none, und := (TypeDesc.tuple #[3, 308]) }
def i310 : TI := { sz := 1, bytes := 8, zero := some Dat.nilf, und := (TypeDesc.func #[9] #[3, 308] false) }
def i311 : TI := { sz := 1, bytes := 8, zero := some Dat.nilf, und := (TypeDesc.func #[] #[3] false) }
def i312 : TI := { sz := 4, bytes := 48, zero := some (Dat.agg [Dat.nilp, Dat.nils, (Dat.int IntKind.i64 0), (Dat.bool false)]), und := (TypeDesc.struct #[{ name := "d", type := 50, offset := 0, embedded := false, tag := "", pkgPath := "ammonite/journal", byteOffset := 0 }, { name := "l", type := 26, offset := 1, embedded := false, tag := "", pkgPath := "ammonite/journal", byteOffset := 8 }, { name := "end", type := 3, offset := 2, embedded := false, tag := "", pkgPath := "ammonite/journal", byteOffset := 32 }, { name := "down", type := 4, offset := 3, embedded := false, tag := "", pkgPath := "ammonite/journal", byteOffset := 40 }]) }
def i313 : TI := { sz := 4, bytes := 48, zero := some (Dat.agg [Dat.nilp, Dat.nils, (Dat.int IntKind.i64 0), (Dat.bool false)]), und := (TypeDesc.struct #[{ name := "d", type := 50, offset := 0, embedded := false, tag := "", pkgPath := "ammonite/journal", byteOffset := 0 }, { name := "l", type := 26, offset := 1, embedded := false, tag := "", pkgPath := "ammonite/journal", byteOffset := 8 }, { name := "end", type := 3, offset := 2, embedded := false, tag := "", pkgPath := "ammonite/journal", byteOffset := 32 }, { name := "down", type := 4, offset := 3, embedded := false, tag := "", pkgPath := "ammonite/journal", byteOffset := 40 }]) }
def i314 : TI := { sz := 1, bytes := 8, zero := some Dat.nilf, und := (TypeDesc.func #[365] #[] false) }
def i315 : TI := { sz := 1, bytes := 8, zero := some Dat.nilf, und := (TypeDesc.func #[365] #[] false) }
def i316 : TI := { sz := 1, bytes := 8, zero := some Dat.nilf, und := (TypeDesc.func #[] #[315] false) }
def i317 : TI := { sz := 1, bytes := 8, zero := some Dat.nilf, und := (TypeDesc.func #[26] #[68] false) }
def i318 : TI := { sz := 1, bytes := 0, zero := none, und := (TypeDesc.tuple #[181, 9, 4]) }
def i319 : TI := { sz := 1, bytes := 8, zero := some Dat.nilf, und := (TypeDesc.func #[9] #[181, 9, 4] false) }
def i320 : TI := { sz := 1, bytes := 8, zero := some Dat.nilf, und := (TypeDesc.func #[178] #[9] true) }
def i321 : TI := { sz := 1, bytes := 0, zero := none, und := (TypeDesc.tuple #[3, 3]) }
def i322 : TI := { sz := 1, bytes := 8, zero := some Dat.nilf, und := (TypeDesc.func #[9, 9] #[3, 3] false) }
def i323 : TI := { sz := 1, bytes := 0, zero := none, und := (TypeDesc.tuple #[3, 3, 4]) }
def i324 : TI := { sz := 1, bytes := 8, zero := some Dat.nilf, und := (TypeDesc.func #[9, 3] #[3, 3, 4] false) }
def i325 : TI := { sz := 1, bytes := 0, zero := none, und := (TypeDesc.tuple #[9, 3, 4]) }
def i326 : TI := { sz := 1, bytes := 8, zero := some Dat.nilf, und := (TypeDesc.func #[9, 9, 3, 3] #[9, 3, 4] false) }
def i327 : TI := { sz := 1, bytes := 8, zero := some Dat.nilf, und := (TypeDesc.func #[97, 3, 3, 198] #[] false) }
def i328 : TI := { sz := 1, bytes := 8, zero := some (Dat.int IntKind.i64 0), und := (TypeDesc.int IntKind.i64) }
def i329 : TI := { sz := 1, bytes := 0, zero := none, und := (TypeDesc.tuple #[3, 328]) }
def i330 : TI := { sz := 1, bytes := 8, zero := some Dat.nilf, und := (TypeDesc.func #[97, 3, 3, 198] #[3, 328] false) }
def i331 : TI := { sz := 1, bytes := 8, zero := some Dat.nilf, und := (TypeDesc.func #[97, 3, 3, 198] #[4] false) }
def i332 : TI := { sz := 1, bytes := 8, zero := some Dat.nilf, und := (TypeDesc.func #[97, 3, 3, 3, 198] #[3] false) }
def i333 : TI := { sz := 1, bytes := 8, zero := some Dat.nilf, und := (TypeDesc.func #[97, 3, 3, 3, 198] #[3, 4] false) }
def i334 : TI := { sz := 1, bytes := 8, zero := some Dat.nilf, und := (TypeDesc.func #[151] #[3] false) }
def i335 : TI := { sz := 1, bytes := 8, zero := some Dat.nilf, und := (TypeDesc.func #[153] #[3] false) }
def i336 : TI := { sz := 1, bytes := 8, zero := some Dat.nilf, und := (TypeDesc.func #[25, 9, 337] #[3, 4] false) }
def i337 : TI := { sz := 1, bytes := 8, zero := some Dat.nilf, und := (TypeDesc.func #[96, 9] #[3] false) }
def i338 : TI := { sz := 1, bytes := 24, zero := some Dat.nils, und := (TypeDesc.slice 25) }
def i339 : TI := { sz := 1, bytes := 8, zero := some Dat.nilf, und := (TypeDesc.func #[25, 3] #[25] false) }
def i340 : TI := { sz := 1, bytes := 8, zero := some Dat.nilf, und := (TypeDesc.func #[9, 9] #[9, 9, 4] false) }
def i341 : TI := { sz := 2, bytes := 32, zero := some (Dat.agg [(Dat.int IntKind.u8 0), Dat.nils]), und := (TypeDesc.struct #[{ name := "Letter", type := 5, offset := 0, embedded := false, tag := "", pkgPath := "", byteOffset := 0 }, { name := "Args", type := 26, offset := 1, embedded := false, tag := "", pkgPath := "", byteOffset := 8 }]) }
def i342 : TI := { sz := 1, bytes := 8, zero := some Dat.nilf, und := (TypeDesc.func #[272] #[9] true) }
def i343 : TI := { sz := 1, bytes := 8, zero := some Dat.nilf, und := (TypeDesc.func #[5] #[308] false) }
def i344 : TI := { sz := 1, bytes := 8, zero := some Dat.nilf, und := (TypeDesc.func #[3, 26] #[4] false) }
def i345 : TI := { sz := 1, bytes := 8, zero := some Dat.nilf, und := (TypeDesc.func #[5, 26] #[341] true) }
def i346 : TI := { sz := 1, bytes := 8, zero := some Dat.nilf, und := (TypeDesc.func #[24] #[272] true) }
def i347 : TI := { sz := 1, bytes := 8, zero := some Dat.nilf, und := (TypeDesc.func #[61, 61, 4] #[24] false) }
def i348 : TI := { sz := 1, bytes := 8, zero := some Dat.nilf, und := (TypeDesc.func #[126, 3, 3, 222] #[] false) }
def i349 : TI := { sz := 1, bytes := 8, zero := some Dat.nilf, und := (TypeDesc.func #[126, 3, 3, 222] #[3, 328] false) }
def i350 : TI := { sz := 1, bytes := 8, zero := some Dat.nilf, und := (TypeDesc.func #[126, 3, 3, 222] #[4] false) }
def i351 : TI := { sz := 1, bytes := 8, zero := some Dat.nilf, und := (TypeDesc.func #[126, 3, 3, 3, 222] #[3] false) }
def i352 : TI := { sz := 1, bytes := 8, zero := some Dat.nilf, und := (TypeDesc.func #[126, 3, 3, 3, 222] #[3, 4] false) }
def i353 : TI := { sz := 1, bytes := 8, zero := some Dat.nilf, und := (TypeDesc.func #[291, 291] #[4] false) }
def i354 : TI := { sz := 1, bytes := 0, zero := none, und := (TypeDesc.tuple #[43, 4]) }
def i355 : TI := { sz := 1, bytes := 8, zero := some Dat.nilf, und := (TypeDesc.func #[9] #[43, 4] false) }
def i356 : TI := { sz := 1, bytes := 8, zero := some Dat.nilf, und := (TypeDesc.func #[26, 3, 3] #[] false) }
def i357 : TI := { sz := 1, bytes := 8, zero := some Dat.nilf, und := (TypeDesc.func #[26, 3, 3] #[3, 328] false) }
def i358 : TI := { sz := 1, bytes := 8, zero := some Dat.nilf, und := (TypeDesc.func #[26, 3, 3] #[4] false) }
def i359 : TI := { sz := 1, bytes := 8, zero := some Dat.nilf, und := (TypeDesc.func #[26, 3, 3, 3] #[3] false) }
def i360 : TI := { sz := 1, bytes := 8, zero := some Dat.nilf, und := (TypeDesc.func #[26, 3, 3, 3] #[3, 4] false) }
def i361 : TI := { sz := 1, bytes := 8, zero := some Dat.nilp, und := (TypeDesc.pointer 5) }
def i362 : TI := { sz := 1, bytes := 8, zero := some Dat.nilf, und := (TypeDesc.func #[26] #[315] false) }
def i363 : TI := { sz := 1, bytes := 0, zero := none, und := (TypeDesc.tuple #[3, 9, 4]) }
def i364 : TI := { sz := 1, bytes := 8, zero := some Dat.nilf, und := (TypeDesc.func #[9] #[3, 9, 4] false) }
def i365 : TI := { sz := 1, bytes := 8, zero := some Dat.nilf, und := (TypeDesc.func #[3, 9] #[4] false) }
def i366 : TI := { sz := 1, bytes := 8, zero := some (Dat.int IntKind.u64 0), und := (TypeDesc.int IntKind.u64) }
def i367 : TI := { sz := 1, bytes := 8, zero := some Dat.nilf, und := (TypeDesc.func #[3] #[154] false) }
def i368 : TI := { sz := 1, bytes := 8, zero := some Dat.nilf, und := (TypeDesc.func #[] #[153] false) }
def i369 : TI := { sz := 1, bytes := 8, zero := some Dat.nilf, und := (TypeDesc.func #[97, 3, 370, 198] #[3] false) }
def i370 : TI := { sz := 1, bytes := 8, zero := some Dat.nilp, und := (TypeDesc.pointer 3) }
def i371 : TI := { sz := 1, bytes := 8, zero := some Dat.nilf, und := (TypeDesc.func #[97, 3, 3, 3, 370, 198] #[3] false) }
def i372 : TI := { sz := 1, bytes := 8, zero := some Dat.nilf, und := (TypeDesc.func #[272] #[4] true) }
def i373 : TI := { sz := 1, bytes := 8, zero := some Dat.nilf, und := (TypeDesc.func #[26, 9] #[9] false) }
def i374 : TI := { sz := 1, bytes := 8, zero := some Dat.nilf, und := (TypeDesc.func #[25, 4] #[4] false) }
def i375 : TI := { sz := 1, bytes := 8, zero := some Dat.nilf, und := (TypeDesc.func #[26, 3] #[4] false) }
def i376 : TI := { sz := 1, bytes := 8, zero := some Dat.nilf, und := (TypeDesc.func #[4, 24] #[4] true) }
def i377 : TI := { sz := 1, bytes := 8, zero := some Dat.nilf, und := (TypeDesc.func #[126, 3, 370, 222] #[3] false) }
def i378 : TI := { sz := 1, bytes := 8, zero := some Dat.nilf, und := (TypeDesc.func #[126, 3, 3, 3, 370, 222] #[3] false) }
def i379 : TI := { sz := 1, bytes := 8, zero := some Dat.nilf, und := (TypeDesc.func #[43] #[4] false) }
def i380 : TI := { sz := 1, bytes := 8, zero := some Dat.nilf, und := (TypeDesc.func #[26, 3, 370] #[3] false) }
def i381 : TI := { sz := 1, bytes := 8, zero := some Dat.nilf, und := (TypeDesc.func #[26, 3, 3, 3, 370] #[3] false) }
def i382 : TI := { sz := 1, bytes := 8, zero := some Dat.nilp, und := TypeDesc.unsafePointer }
def i383 : TI := { sz := 1, bytes := 8, zero := some Dat.nilf, und := (TypeDesc.func #[382] #[382] false) }
def i384 : TI := { sz := 1, bytes := 8, zero := some Dat.nilf, und := (TypeDesc.func #[3] #[73] false) }
def i385 : TI := { sz := 1, bytes := 8, zero := some Dat.nilf, und := (TypeDesc.func #[9, 5] #[9] false) }
def i386 : TI := { sz := 1, bytes := 8, zero := some Dat.nilp, und := (TypeDesc.pointer 366) }
def i387 : TI := { sz := 1, bytes := 8, zero := some Dat.nilf, und := (TypeDesc.func #[97, 3, 3, 370, 198] #[3, 3] false) }
def i388 : TI := { sz := 1, bytes := 8, zero := some Dat.nilf, und := (TypeDesc.func #[26, 9] #[4] false) }
def i389 : TI := { sz := 1, bytes := 8, zero := some Dat.nilf, und := (TypeDesc.func #[126, 3, 3, 370, 222] #[3, 3] false) }
def i390 : TI := { sz := 1, bytes := 8, zero := some Dat.nilf, und := (TypeDesc.func #[26, 3, 3, 370] #[3, 3] false) }
def i391 : TI := { sz := 1, bytes := 8, zero := some Dat.nilf, und := (TypeDesc.func #[3] #[3] false) }
def i392 : TI := { sz := 1, bytes := 8, zero := some Dat.nilf, und := (TypeDesc.func #[26, 9] #[3] false) }
def i393 : TI := { sz := 1, bytes := 8, zero := some Dat.nilf, und := (TypeDesc.func #[9] #[151, 151] false) }
def i394 : TI := { sz := 4, bytes := 40, zero := some (Dat.agg [Dat.nilp, Dat.nilp, Dat.nilp, (Dat.str [])]), und := (TypeDesc.struct #[{ name := "_interface", type := 17, offset := 0, embedded := false, tag := "", pkgPath := "runtime", byteOffset := 0 }, { name := "concrete", type := 17, offset := 1, embedded := false, tag := "", pkgPath := "runtime", byteOffset := 8 }, { name := "asserted", type := 17, offset := 2, embedded := false, tag := "", pkgPath := "runtime", byteOffset := 16 }, { name := "missingMethod", type := 9, offset := 3, embedded := false, tag := "", pkgPath := "runtime", byteOffset := 24 }]) }
def i395 : TI := { sz := 4, bytes := 40, zero := some (Dat.agg [Dat.nilp, Dat.nilp, Dat.nilp, (Dat.str [])]), und := (TypeDesc.struct #[{ name := "_interface", type := 17, offset := 0, embedded := false, tag := "", pkgPath := "runtime", byteOffset := 0 }, { name := "concrete", type := 17, offset := 1, embedded := false, tag := "", pkgPath := "runtime", byteOffset := 8 }, { name := "asserted", type := 17, offset := 2, embedded := false, tag := "", pkgPath := "runtime", byteOffset := 16 }, { name := "missingMethod", type := 9, offset := 3, embedded := false, tag := "", pkgPath := "runtime", byteOffset := 24 }]) }
def i396 : TI := { sz := 0, bytes := 0, zero := some (Dat.agg []), und := (TypeDesc.array 0 16) }
def i397 : TI := { sz := 0, bytes := 0, zero := some (Dat.agg []), und := (TypeDesc.struct #[{ name := "_", type := 396, offset := 0, embedded := false, tag := "", pkgPath := "runtime", byteOffset := 0 }]) }
def i398 : TI := { sz := 0, bytes := 0, zero := some (Dat.agg []), und := (TypeDesc.struct #[{ name := "_", type := 396, offset := 0, embedded := false, tag := "", pkgPath := "runtime", byteOffset := 0 }]) }
def i399 : TI := { sz := 1, bytes := 1, zero := some (Dat.int IntKind.u8 0), und := (TypeDesc.int IntKind.u8) }
def i400 : TI := { sz := 1, bytes := 1, zero := some (Dat.int IntKind.u8 0), und := (TypeDesc.int IntKind.u8) }
def i401 : TI := { sz := 1, bytes := 8, zero := some Dat.nilf, und := (TypeDesc.func #[382, 382] #[4] false) }
def i402 : TI := { sz := 1, bytes := 4, zero := some (Dat.int IntKind.i32 0), und := (TypeDesc.int IntKind.i32) }
def i403 : TI := { sz := 1, bytes := 4, zero := some (Dat.int IntKind.i32 0), und := (TypeDesc.int IntKind.i32) }
def i404 : TI := { sz := 11, bytes := 48, zero := some (Dat.agg [(Dat.int IntKind.u64 0), (Dat.int IntKind.u64 0), (Dat.int IntKind.u32 0), (Dat.int IntKind.u8 0), (Dat.int IntKind.u8 0), (Dat.int IntKind.u8 0), (Dat.int IntKind.u8 0), Dat.nilf, Dat.nilp, (Dat.int IntKind.i32 0), (Dat.int IntKind.i32 0)]), und := (TypeDesc.struct #[{ name := "Size_", type := 12, offset := 0, embedded := false, tag := "", pkgPath := "", byteOffset := 0 }, { name := "PtrBytes", type := 12, offset := 1, embedded := false, tag := "", pkgPath := "", byteOffset := 8 }, { name := "Hash", type := 151, offset := 2, embedded := false, tag := "", pkgPath := "", byteOffset := 16 }, { name := "TFlag", type := 399, offset := 3, embedded := false, tag := "", pkgPath := "", byteOffset := 20 }, { name := "Align_", type := 5, offset := 4, embedded := false, tag := "", pkgPath := "", byteOffset := 21 }, { name := "FieldAlign_", type := 5, offset := 5, embedded := false, tag := "", pkgPath := "", byteOffset := 22 }, { name := "Kind_", type := 400, offset := 6, embedded := false, tag := "", pkgPath := "", byteOffset := 23 }, { name := "Equal", type := 401, offset := 7, embedded := false, tag := "", pkgPath := "", byteOffset := 24 }, { name := "GCData", type := 361, offset := 8, embedded := false, tag := "", pkgPath := "", byteOffset := 32 }, { name := "Str", type := 402, offset := 9, embedded := false, tag := "", pkgPath := "", byteOffset := 40 }, { name := "PtrToThis", type := 403, offset := 10, embedded := false, tag := "", pkgPath := "", byteOffset := 44 }]) }
def i405 : TI := { sz := 11, bytes := 48, zero := some (Dat.agg [(Dat.int IntKind.u64 0), (Dat.int IntKind.u64 0), (Dat.int IntKind.u32 0), (Dat.int IntKind.u8 0), (Dat.int IntKind.u8 0), (Dat.int IntKind.u8 0), (Dat.int IntKind.u8 0), Dat.nilf, Dat.nilp, (Dat.int IntKind.i32 0), (Dat.int IntKind.i32 0)]), und := (TypeDesc.struct #[{ name := "Size_", type := 12, offset := 0, embedded := false, tag := "", pkgPath := "", byteOffset := 0 }, { name := "PtrBytes", type := 12, offset := 1, embedded := false, tag := "", pkgPath := "", byteOffset := 8 }, { name := "Hash", type := 151, offset := 2, embedded := false, tag := "", pkgPath := "", byteOffset := 16 }, { name := "TFlag", type := 399, offset := 3, embedded := false, tag := "", pkgPath := "", byteOffset := 20 }, { name := "Align_", type := 5, offset := 4, embedded := false, tag := "", pkgPath := "", byteOffset := 21 }, { name := "FieldAlign_", type := 5, offset := 5, embedded := false, tag := "", pkgPath := "", byteOffset := 22 }, { name := "Kind_", type := 400, offset := 6, embedded := false, tag := "", pkgPath := "", byteOffset := 23 }, { name := "Equal", type := 401, offset := 7, embedded := false, tag := "", pkgPath := "", byteOffset := 24 }, { name := "GCData", type := 361, offset := 8, embedded := false, tag := "", pkgPath := "", byteOffset := 32 }, { name := "Str", type := 402, offset := 9, embedded := false, tag := "", pkgPath := "", byteOffset := 40 }, { name := "PtrToThis", type := 403, offset := 10, embedded := false, tag := "", pkgPath := "", byteOffset := 44 }]) }
def tiT : Tr TI := (.node (.node (.node (.node (.node (.node (.node (.node (.node .leaf (some i255) .leaf) (some i127) (.node .leaf (some i383) .leaf)) (some i63) (.node (.node .leaf (some i319) .leaf) (some i191) .leaf)) (some i31) (.node (.node (.node .leaf (some i287) .leaf) (some i159) .leaf) (some i95) (.node (.node .leaf (some i351) .leaf) (some i223) .leaf))) (some i15) (.node (.node (.node (.node .leaf (some i271) .leaf) (some i143) (.node .leaf (some i399) .leaf)) (some i79) (.node (.node .leaf (some i335) .leaf) (some i207) .leaf)) (some i47) (.node (.node (.node .leaf (some i303) .leaf) (some i175) .leaf) (some i111) (.node (.node .leaf (some i367) .leaf) (some i239) .leaf)))) (some i7) (.node (.node (.node (.node (.node .leaf (some i263) .leaf) (some i135) (.node .leaf (some i391) .leaf)) (some i71) (.node (.node .leaf (some i327) .leaf) (some i199) .leaf)) (some i39) (.node (.node (.node .leaf (some i295) .leaf) (some i167) .leaf) (some i103) (.node (.node .leaf (some i359) .leaf) (some i231) .leaf))) (some i23) (.node (.node (.node (.node .leaf (some i279) .leaf) (some i151) .leaf) (some i87) (.node (.node .leaf (some i343) .leaf) (some i215) .leaf)) (some i55) (.node (.node (.node .leaf (some i311) .leaf) (some i183) .leaf) (some i119) (.node (.node .leaf (some i375) .leaf) (some i247) .leaf))))) (some i3) (.node (.node (.node (.node (.node (.node .leaf (some i259) .leaf) (some i131) (.node .leaf (some i387) .leaf)) (some i67) (.node (.node .leaf (some i323) .leaf) (some i195) .leaf)) (some i35) (.node (.node (.node .leaf (some i291) .leaf) (some i163) .leaf) (some i99) (.node (.node .leaf (some i355) .leaf) (some i227) .leaf))) (some i19) (.node (.node (.node (.node .leaf (some i275) .leaf) (some i147) (.node .leaf (some i403) .leaf)) (some i83) (.node (.node .leaf (some i339) .leaf) (some i211) .leaf)) (some i51) (.node (.node (.node .leaf (some i307) .leaf) (some i179) .leaf) (some i115) (.node (.node .leaf (some i371) .leaf) (some i243) .leaf)))) (some i11) (.node (.node (.node (.node (.node .leaf (some i267) .leaf) (some i139) (.node .leaf (some i395) .leaf)) (some i75) (.node (.node .leaf (some i331) .leaf) (some i203) .leaf)) (some i43) (.node (.node (.node .leaf (some i299) .leaf) (some i171) .leaf) (some i107) (.node (.node .leaf (some i363) .leaf) (some i235) .leaf))) (some i27) (.node (.node (.node (.node .leaf (some i283) .leaf) (some i155) .leaf) (some i91) (.node (.node .leaf (some i347) .leaf) (some i219) .leaf)) (some i59) (.node (.node (.node .leaf (some i315) .leaf) (some i187) .leaf) (some i123) (.node (.node .leaf (some i379) .leaf) (some i251) .leaf)))))) (some i1) (.node (.node (.node (.node (.node (.node (.node .leaf (some i257) .leaf) (some i129) (.node .leaf (some i385) .leaf)) (some i65) (.node (.node .leaf (some i321) .leaf) (some i193) .leaf)) (some i33) (.node (.node (.node .leaf (some i289) .leaf) (some i161) .leaf) (some i97) (.node (.node .leaf (some i353) .leaf) (some i225) .leaf))) (some i17) (.node (.node (.node (.node .leaf (some i273) .leaf) (some i145) (.node .leaf (some i401) .leaf)) (some i81) (.node (.node .leaf (some i337) .leaf) (some i209) .leaf)) (some i49) (.node (.node (.node .leaf (some i305) .leaf) (some i177) .leaf) (some i113) (.node (.node .leaf (some i369) .leaf) (some i241) .leaf)))) (some i9) (.node (.node (.node (.node (.node .leaf (some i265) .leaf) (some i137) (.node .leaf (some i393) .leaf)) (some i73) (.node (.node .leaf (some i329) .leaf) (some i201) .leaf)) (some i41) (.node (.node (.node .leaf (some i297) .leaf) (some i169) .leaf) (some i105) (.node (.node .leaf (some i361) .leaf) (some i233) .leaf))) (some i25) (.node (.node (.node (.node .leaf (some i281) .leaf) (some i153) .leaf) (some i89) (.node (.node .leaf (some i345) .leaf) (some i217) .leaf)) (some i57) (.node (.node (.node .leaf (some i313) .leaf) (some i185) .leaf) (some i121) (.node (.node .leaf (some i377) .leaf) (some i249) .leaf))))) (some i5) (.node (.node (.node (.node (.node (.node .leaf (some i261) .leaf) (some i133) (.node .leaf (some i389) .leaf)) (some i69) (.node (.node .leaf (some i325) .leaf) (some i197) .leaf)) (some i37) (.node (.node (.node .leaf (some i293) .leaf) (some i165) .leaf) (some i101) (.node (.node .leaf (some i357) .leaf) (some i229) .leaf))) (some i21) (.node (.node (.node (.node .leaf (some i277) .leaf) (some i149) (.node .leaf (some i405) .leaf)) (some i85) (.node (.node .leaf (some i341) .leaf) (some i213) .leaf)) (some i53) (.node (.node (.node .leaf (some i309) .leaf) (some i181) .leaf) (some i117) (.node (.node .leaf (some i373) .leaf) (some i245) .leaf)))) (some i13) (.node (.node (.node (.node (.node .leaf (some i269) .leaf) (some i141) (.node .leaf (some i397) .leaf)) (some i77) (.node (.node .leaf (some i333) .leaf) (some i205) .leaf)) (some i45) (.node (.node (.node .leaf (some i301) .leaf) (some i173) .leaf) (some i109) (.node (.node .leaf (some i365) .leaf) (some i237) .leaf))) (some i29) (.node (.node (.node (.node .leaf (some i285) .leaf) (some i157) .leaf) (some i93) (.node (.node .leaf (some i349) .leaf) (some i221) .leaf)) (some i61) (.node (.node (.node .leaf (some i317) .leaf) (some i189) .leaf) (some i125) (.node (.node .leaf (some i381) .leaf) (some i253) .leaf))))))) (some i0) (.node (.node (.node (.node (.node (.node (.node (.node .leaf (some i256) .leaf) (some i128) (.node .leaf (some i384) .leaf)) (some i64) (.node (.node .leaf (some i320) .leaf) (some i192) .leaf)) (some i32) (.node (.node (.node .leaf (some i288) .leaf) (some i160) .leaf) (some i96) (.node (.node .leaf (some i352) .leaf) (some i224) .leaf))) (some i16) (.node (.node (.node (.node .leaf (some i272) .leaf) (some i144) (.node .leaf (some i400) .leaf)) (some i80) (.node (.node .leaf (some i336) .leaf) (some i208) .leaf)) (some i48) (.node (.node (.node .leaf (some i304) .leaf) (some i176) .leaf) (some i112) (.node (.node .leaf (some i368) .leaf) (some i240) .leaf)))) (some i8) (.node (.node (.node (.node (.node .leaf (some i264) .leaf) (some i136) (.node .leaf (some i392) .leaf)) (some i72) (.node (.node .leaf (some i328) .leaf) (some i200) .leaf)) (some i40) (.node (.node (.node .leaf (some i296) .leaf) (some i168) .leaf) (some i104) (.node (.node .leaf (some i360) .leaf) (some i232) .leaf))) (some i24) (.node (.node (.node (.node .leaf (some i280) .leaf) (some i152) .leaf) (some i88) (.node (.node .leaf (some i344) .leaf) (some i216) .leaf)) (some i56) (.node (.node (.node .leaf (some i312) .leaf) (some i184) .leaf) (some i120) (.node (.node .leaf (some i376) .leaf) (some i248) .leaf))))) (some i4) (.node (.node (.node (.node (.node (.node .leaf (some i260) .leaf) (some i132) (.node .leaf (some i388) .leaf)) (some i68) (.node (.node .leaf (some i324) .leaf) (some i196) .leaf)) (some i36) (.node (.node (.node .leaf (some i292) .leaf) (some i164) .leaf) (some i100) (.node (.node .leaf (some i356) .leaf) (some i228) .leaf))) (some i20) (.node (.node (.node (.node .leaf (some i276) .leaf) (some i148) (.node .leaf (some i404) .leaf)) (some i84) (.node (.node .leaf (some i340) .leaf) (some i212) .leaf)) (some i52) (.node (.node (.node .leaf (some i308) .leaf) (some i180) .leaf) (some i116) (.node (.node .leaf (some i372) .leaf) (some i244) .leaf)))) (some i12) (.node (.node (.node (.node (.node .leaf (some i268) .leaf) (some i140) (.node .leaf (some i396) .leaf)) (some i76) (.node (.node .leaf (some i332) .leaf) (some i204) .leaf)) (some i44) (.node (.node (.node .leaf (some i300) .leaf) (some i172) .leaf) (some i108) (.node (.node .leaf (some i364) .leaf) (some i236) .leaf))) (some i28) (.node (.node (.node (.node .leaf (some i284) .leaf) (some i156) .leaf) (some i92) (.node (.node .leaf (some i348) .leaf) (some i220) .leaf)) (some i60) (.node (.node (.node .leaf (some i316) .leaf) (some i188) .leaf) (some i124) (.node (.node .leaf (some i380) .leaf) (some i252) .leaf)))))) (some i2) (.node (.node (.node (.node (.node (.node (.node .leaf (some i258) .leaf) (some i130) (.node .leaf (some i386) .leaf)) (some i66) (.node (.node .leaf (some i322) .leaf) (some i194) .leaf)) (some i34) (.node (.node (.node .leaf (some i290) .leaf) (some i162) .leaf) (some i98) (.node (.node .leaf (some i354) .leaf) (some i226) .leaf))) (some i18) (.node (.node (.node (.node .leaf (some i274) .leaf) (some i146) (.node .leaf (some i402) .leaf)) (some i82) (.node (.node .leaf (some i338) .leaf) (some i210) .leaf)) (some i50) (.node (.node (.node .leaf (some i306) .leaf) (some i178) .leaf) (some i114) (.node (.node .leaf (some i370) .leaf) (some i242) .leaf)))) (some i10) (.node (.node (.node (.node (.node .leaf (some i266) .leaf) (some i138) (.node .leaf (some i394) .leaf)) (some i74) (.node (.node .leaf (some i330) .leaf) (some i202) .leaf)) (some i42) (.node (.node (.node .leaf (some i298) .leaf) (some i170) .leaf) (some i106) (.node (.node .leaf (some i362) .leaf) (some i234) .leaf))) (some i26) (.node (.node (.node (.node .leaf (some i282) .leaf) (some i154) .leaf) (some i90) (.node (.node .leaf (some i346) .leaf) (some i218) .leaf)) (some i58) (.node (.node (.node .leaf (some i314) .leaf) (some i186) .leaf) (some i122) (.node (.node .leaf (some i378) .leaf) (some i250) .leaf))))) (some i6) (.node (.node (.node (.node (.node (.node .leaf (some i262) .leaf) (some i134) (.node .leaf (some i390) .leaf)) (some i70) (.node (.node .leaf (some i326) .leaf) (some i198) .leaf)) (some i38) (.node (.node (.node .leaf (some i294) .leaf) (some i166) .leaf) (some i102) (.node (.node .leaf (some i358) .leaf) (some i230) .leaf))) (some i22) (.node (.node (.node (.node .leaf (some i278) .leaf) (some i150) .leaf) (some i86) (.node (.node .leaf (some i342) .leaf) (some i214) .leaf)) (some i54) (.node (.node (.node .leaf (some i310) .leaf) (some i182) .leaf) (some i118) (.node (.node .leaf (some i374) .leaf) (some i246) .leaf)))) (some i14) (.node (.node (.node (.node (.node .leaf (some i270) .leaf) (some i142) (.node .leaf (some i398) .leaf)) (some i78) (.node (.node .leaf (some i334) .leaf) (some i206) .leaf)) (some i46) (.node (.node (.node .leaf (some i302) .leaf) (some i174) .leaf) (some i110) (.node (.node .leaf (some i366) .leaf) (some i238) .leaf))) (some i30) (.node (.node (.node (.node .leaf (some i286) .leaf) (some i158) .leaf) (some i94) (.node (.node .leaf (some i350) .leaf) (some i222) .leaf)) (some i62) (.node (.node (.node .leaf (some i318) .leaf) (some i190) .leaf) (some i126) (.node (.node .leaf (some i382) .leaf) (some i254) .leaf))))))))
theorem ok0 : TIok Tryz.prog tiT.get 0 i0 := mk_ti (info_at Tryz.type0) rfl rfl Tryz.underlying0 (.inl rfl) rfl
theorem ok1 : TIok Tryz.prog tiT.get 1 i1 := mk_ti (info_at Tryz.type1) rfl rfl Tryz.underlying1 (.inr ⟨_, _, rfl, rfl, rfl, nofun, rfl⟩) rfl
theorem ok2 : TIok Tryz.prog tiT.get 2 i2 := mk_ti (info_at Tryz.type2) rfl rfl Tryz.underlying2 (.inr ⟨_, _, rfl, rfl, rfl, nofun, rfl⟩) rfl
theorem ok3 : TIok Tryz.prog tiT.get 3 i3 := mk_ti (info_at Tryz.type3) rfl rfl Tryz.underlying3 (.inr ⟨_, _, rfl, rfl, rfl, nofun, rfl⟩) rfl
theorem ok4 : TIok Tryz.prog tiT.get 4 i4 := mk_ti (info_at Tryz.type4) rfl rfl Tryz.underlying4 (.inr ⟨_, _, rfl, rfl, rfl, nofun, rfl⟩) rfl
theorem ok5 : TIok Tryz.prog tiT.get 5 i5 := mk_ti (info_at Tryz.type5) rfl rfl Tryz.underlying5 (.inr ⟨_, _, rfl, rfl, rfl, nofun, rfl⟩) rfl
theorem ok6 : TIok Tryz.prog tiT.get 6 i6 := mk_ti (info_at Tryz.type6) rfl rfl Tryz.underlying6 (.inr ⟨_, _, rfl, rfl, rfl, nofun, rfl⟩) rfl
theorem ok7 : TIok Tryz.prog tiT.get 7 i7 := mk_ti (info_at Tryz.type7) rfl rfl Tryz.underlying7 (.inr ⟨_, _, rfl, rfl, rfl, nofun, rfl⟩) rfl
theorem ok8 : TIok Tryz.prog tiT.get 8 i8 := mk_ti (info_at Tryz.type8) rfl rfl Tryz.underlying8 (.inr ⟨_, _, rfl, rfl, rfl, nofun, rfl⟩) rfl
theorem ok9 : TIok Tryz.prog tiT.get 9 i9 := mk_ti (info_at Tryz.type9) rfl rfl Tryz.underlying9 (.inr ⟨_, _, rfl, rfl, rfl, nofun, rfl⟩) rfl
theorem ok10 : TIok Tryz.prog tiT.get 10 i10 := mk_ti (info_at Tryz.type10) rfl rfl Tryz.underlying10 (.inr ⟨_, _, rfl, rfl, rfl, nofun, rfl⟩) rfl
theorem ok11 : TIok Tryz.prog tiT.get 11 i11 := mk_ti (info_at Tryz.type11) rfl rfl Tryz.underlying11 (.inr ⟨_, _, rfl, rfl, rfl, nofun, rfl⟩) rfl
theorem ok12 : TIok Tryz.prog tiT.get 12 i12 := mk_ti (info_at Tryz.type12) rfl rfl Tryz.underlying12 (.inr ⟨_, _, rfl, rfl, rfl, nofun, rfl⟩) rfl
theorem ok13 : TIok Tryz.prog tiT.get 13 i13 := mk_ti (info_at Tryz.type13) rfl rfl Tryz.underlying13 (.inr ⟨_, _, rfl, rfl, rfl, nofun, rfl⟩) rfl
theorem ok14 : TIok Tryz.prog tiT.get 14 i14 := mk_ti (info_at Tryz.type14) rfl rfl Tryz.underlying14 (.inr ⟨_, _, rfl, rfl, rfl, nofun, rfl⟩) rfl
theorem ok15 : TIok Tryz.prog tiT.get 15 i15 := mk_ti (info_at Tryz.type15) rfl rfl Tryz.underlying15 (.inr ⟨_, _, rfl, rfl, rfl, nofun, rfl⟩) rfl
theorem ok16 : TIok Tryz.prog tiT.get 16 i16 := mk_ti (info_at Tryz.type16) rfl rfl Tryz.underlying16 (.inr ⟨_, _, rfl, rfl, rfl, nofun, rfl⟩) rfl
theorem ok17 : TIok Tryz.prog tiT.get 17 i17 := mk_ti (info_at Tryz.type17) rfl rfl Tryz.underlying17 (.inr ⟨_, _, rfl, rfl, rfl, nofun, rfl⟩) rfl
theorem ok18 : TIok Tryz.prog tiT.get 18 i18 := mk_ti (info_at Tryz.type18) rfl rfl Tryz.underlying18 (.inr ⟨_, _, rfl, rfl, rfl, nofun, rfl⟩) rfl
theorem ok19 : TIok Tryz.prog tiT.get 19 i19 := mk_ti (info_at Tryz.type19) rfl rfl Tryz.underlying19 (.inr ⟨_, _, rfl, rfl, rfl, nofun, rfl⟩) rfl
theorem ok20 : TIok Tryz.prog tiT.get 20 i20 := mk_ti (info_at Tryz.type20) rfl rfl Tryz.underlying20 (.inr ⟨_, _, rfl, rfl, rfl, nofun, rfl⟩) rfl
theorem ok21 : TIok Tryz.prog tiT.get 21 i21 := mk_ti (info_at Tryz.type21) rfl rfl Tryz.underlying21 (.inr ⟨_, _, rfl, rfl, rfl, nofun, rfl⟩) rfl
theorem ok22 : TIok Tryz.prog tiT.get 22 i22 := mk_ti (info_at Tryz.type22) rfl rfl Tryz.underlying22 (.inr ⟨_, _, rfl, rfl, rfl, nofun, rfl⟩) rfl
theorem ok23 : TIok Tryz.prog tiT.get 23 i23 := mk_ti (info_at Tryz.type23) rfl rfl Tryz.underlying23 (.inr ⟨_, _, rfl, rfl, rfl, nofun, rfl⟩) rfl
theorem ok24 : TIok Tryz.prog tiT.get 24 i24 := mk_ti (info_at Tryz.type24) rfl rfl Tryz.underlying24 (.inr ⟨_, _, rfl, rfl, rfl, nofun, rfl⟩) rfl
theorem ok25 : TIok Tryz.prog tiT.get 25 i25 := mk_ti (info_at Tryz.type25) rfl rfl Tryz.underlying25 (.inr ⟨_, _, rfl, rfl, rfl, nofun, rfl⟩) rfl
theorem ok26 : TIok Tryz.prog tiT.get 26 i26 := mk_ti (info_at Tryz.type26) rfl rfl Tryz.underlying26 (.inr ⟨_, _, rfl, rfl, rfl, nofun, rfl⟩) rfl
theorem ok27 : TIok Tryz.prog tiT.get 27 i27 := mk_ti (info_at Tryz.type27) rfl rfl Tryz.underlying27 (.inr ⟨_, _, rfl, rfl, rfl, nofun, rfl⟩) rfl
theorem ok28 : TIok Tryz.prog tiT.get 28 i28 := mk_ti (info_at Tryz.type28) rfl rfl Tryz.underlying28 (.inr ⟨_, _, rfl, rfl, rfl, nofun, rfl⟩) rfl
theorem ok29 : TIok Tryz.prog tiT.get 29 i29 := mk_ti (info_at Tryz.type29) rfl rfl Tryz.underlying29 (.inr ⟨_, _, rfl, rfl, rfl, nofun, rfl⟩) rfl
theorem ok30 : TIok Tryz.prog tiT.get 30 i30 := mk_ti (info_at Tryz.type30) rfl rfl Tryz.underlying30 (.inr ⟨_, _, rfl, rfl, rfl, nofun, rfl⟩) rfl
theorem ok31 : TIok Tryz.prog tiT.get 31 i31 := mk_ti (info_at Tryz.type31) rfl rfl Tryz.underlying31 (.inr ⟨_, _, rfl, rfl, rfl, nofun, rfl⟩) rfl
theorem ok32 : TIok Tryz.prog tiT.get 32 i32 := mk_ti (info_at Tryz.type32) rfl rfl Tryz.underlying32 (.inr ⟨_, _, rfl, rfl, rfl, nofun, rfl⟩) rfl
theorem ok33 : TIok Tryz.prog tiT.get 33 i33 := mk_ti (info_at Tryz.type33) rfl rfl Tryz.underlying33 (.inr ⟨_, _, rfl, rfl, rfl, nofun, rfl⟩) rfl
theorem ok34 : TIok Tryz.prog tiT.get 34 i34 := mk_ti (info_at Tryz.type34) rfl rfl Tryz.underlying34 (.inl rfl) rfl
theorem ok35 : TIok Tryz.prog tiT.get 35 i35 := mk_ti (info_at Tryz.type35) rfl rfl Tryz.underlying35 (.inr ⟨_, _, rfl, rfl, rfl, nofun, rfl⟩) rfl
theorem ok36 : TIok Tryz.prog tiT.get 36 i36 := mk_ti (info_at Tryz.type36) rfl rfl Tryz.underlying36 (.inr ⟨_, _, rfl, rfl, rfl, nofun, rfl⟩) rfl
theorem ok37 : TIok Tryz.prog tiT.get 37 i37 := mk_ti (info_at Tryz.type37) rfl rfl Tryz.underlying37 (.inr ⟨_, _, rfl, rfl, rfl, nofun, rfl⟩) rfl
theorem ok38 : TIok Tryz.prog tiT.get 38 i38 := mk_ti (info_at Tryz.type38) rfl rfl Tryz.underlying38 (.inr ⟨_, _, rfl, rfl, rfl, nofun, rfl⟩) rfl
theorem ok39 : TIok Tryz.prog tiT.get 39 i39 := mk_ti (info_at Tryz.type39) rfl rfl Tryz.underlying39 (.inr ⟨_, _, rfl, rfl, rfl, nofun, rfl⟩) rfl
theorem ok40 : TIok Tryz.prog tiT.get 40 i40 := mk_ti (info_at Tryz.type40) rfl rfl Tryz.underlying40 (.inr ⟨_, _, rfl, rfl, rfl, nofun, rfl⟩) rfl
theorem ok41 : TIok Tryz.prog tiT.get 41 i41 := mk_ti (info_at Tryz.type41) rfl rfl Tryz.underlying41 (.inr ⟨_, _, rfl, rfl, rfl, nofun, rfl⟩) rfl
theorem ok42 : TIok Tryz.prog tiT.get 42 i42 := mk_ti (info_at Tryz.type42) rfl rfl Tryz.underlying42 (.inr ⟨_, _, rfl, rfl, rfl, nofun, rfl⟩) rfl
theorem ok43 : TIok Tryz.prog tiT.get 43 i43 := mk_ti (info_at Tryz.type43) rfl rfl Tryz.underlying43 (.inr ⟨_, _, rfl, rfl, rfl, nofun, rfl⟩) rfl
theorem ok44 : TIok Tryz.prog tiT.get 44 i44 := mk_ti (info_at Tryz.type44) rfl rfl Tryz.underlying44 (.inr ⟨_, _, rfl, rfl, rfl, nofun, rfl⟩) rfl
theorem ok45 : TIok Tryz.prog tiT.get 45 i45 := mk_ti (info_at Tryz.type45) rfl rfl Tryz.underlying45 (.inr ⟨_, _, rfl, rfl, rfl, nofun, rfl⟩) rfl
theorem ok46 : TIok Tryz.prog tiT.get 46 i46 := mk_ti (info_at Tryz.type46) rfl rfl Tryz.underlying46 (.inl rfl) rfl
theorem ok47 : TIok Tryz.prog tiT.get 47 i47 := mk_ti (info_at Tryz.type47) rfl rfl Tryz.underlying47 (.inr ⟨_, _, rfl, rfl, rfl, nofun, rfl⟩) rfl
theorem ok48 : TIok Tryz.prog tiT.get 48 i48 := mk_ti (info_at Tryz.type48) rfl rfl Tryz.underlying48 (.inr ⟨_, _, rfl, rfl, rfl, nofun, rfl⟩) rfl
theorem ok49 : TIok Tryz.prog tiT.get 49 i49 := mk_ti (info_at Tryz.type49) rfl rfl Tryz.underlying49 (.inr ⟨_, _, rfl, rfl, rfl, nofun, rfl⟩) rfl
theorem ok50 : TIok Tryz.prog tiT.get 50 i50 := mk_ti (info_at Tryz.type50) rfl rfl Tryz.underlying50 (.inr ⟨_, _, rfl, rfl, rfl, nofun, rfl⟩) rfl
theorem ok51 : TIok Tryz.prog tiT.get 51 i51 := mk_ti (info_at Tryz.type51) rfl rfl Tryz.underlying51 (.inr ⟨_, _, rfl, rfl, rfl, nofun, rfl⟩) rfl
theorem ok52 : TIok Tryz.prog tiT.get 52 i52 := mk_ti (info_at Tryz.type52) rfl rfl Tryz.underlying52 (.inr ⟨_, _, rfl, rfl, rfl, nofun, rfl⟩) rfl
theorem ok53 : TIok Tryz.prog tiT.get 53 i53 := mk_ti (info_at Tryz.type53) rfl rfl Tryz.underlying53 (.inr ⟨_, _, rfl, rfl, rfl, nofun, rfl⟩) rfl
theorem ok54 : TIok Tryz.prog tiT.get 54 i54 := mk_ti (info_at Tryz.type54) rfl rfl Tryz.underlying54 (.inr ⟨_, _, rfl, rfl, rfl, nofun, rfl⟩) rfl
theorem ok55 : TIok Tryz.prog tiT.get 55 i55 := mk_ti (info_at Tryz.type55) rfl rfl Tryz.underlying55 (.inl rfl) rfl
theorem ok56 : TIok Tryz.prog tiT.get 56 i56 := mk_ti (info_at Tryz.type56) rfl rfl Tryz.underlying56 (.inr ⟨_, _, rfl, rfl, rfl, nofun, rfl⟩) rfl
theorem ok57 : TIok Tryz.prog tiT.get 57 i57 := mk_ti (info_at Tryz.type57) rfl rfl Tryz.underlying57 (.inr ⟨_, _, rfl, rfl, rfl, nofun, rfl⟩) rfl
theorem ok58 : TIok Tryz.prog tiT.get 58 i58 := mk_ti (info_at Tryz.type58) rfl rfl Tryz.underlying58 (.inr ⟨_, _, rfl, rfl, rfl, nofun, rfl⟩) rfl
theorem ok59 : TIok Tryz.prog tiT.get 59 i59 := mk_ti (info_at Tryz.type59) rfl rfl Tryz.underlying59 (.inr ⟨_, _, rfl, rfl, rfl, nofun, rfl⟩) rfl
theorem ok60 : TIok Tryz.prog tiT.get 60 i60 := mk_ti (info_at Tryz.type60) rfl rfl Tryz.underlying60 (.inr ⟨_, _, rfl, rfl, rfl, nofun, rfl⟩) rfl
theorem ok61 : TIok Tryz.prog tiT.get 61 i61 := mk_ti (info_at Tryz.type61) rfl rfl Tryz.underlying61 (.inr ⟨_, _, rfl, rfl, rfl, nofun, rfl⟩) rfl
theorem ok62 : TIok Tryz.prog tiT.get 62 i62 := mk_ti (info_at Tryz.type62) rfl rfl Tryz.underlying62 (.inr ⟨_, _, rfl, rfl, rfl, nofun, rfl⟩) rfl
theorem ok63 : TIok Tryz.prog tiT.get 63 i63 := mk_ti (info_at Tryz.type63) rfl rfl Tryz.underlying63 (.inr ⟨_, _, rfl, rfl, rfl, nofun, rfl⟩) rfl
theorem ok64 : TIok Tryz.prog tiT.get 64 i64 := mk_ti (info_at Tryz.type64) rfl rfl Tryz.underlying64 (.inr ⟨_, _, rfl, rfl, rfl, nofun, rfl⟩) rfl
theorem ok65 : TIok Tryz.prog tiT.get 65 i65 := mk_ti (info_at Tryz.type65) rfl rfl Tryz.underlying65 (.inr ⟨_, _, rfl, rfl, rfl, nofun, rfl⟩) rfl
theorem ok66 : TIok Tryz.prog tiT.get 66 i66 := mk_ti (info_at Tryz.type66) rfl rfl Tryz.underlying66 (.inr ⟨_, _, rfl, rfl, rfl, nofun, rfl⟩) rfl
theorem ok67 : TIok Tryz.prog tiT.get 67 i67 := mk_ti (info_at Tryz.type67) rfl rfl Tryz.underlying67 (.inr ⟨_, _, rfl, rfl, rfl, nofun, rfl⟩) rfl
theorem ok68 : TIok Tryz.prog tiT.get 68 i68 := mk_ti (info_at Tryz.type68) rfl rfl Tryz.underlying68 (.inr ⟨_, _, rfl, rfl, rfl, nofun, rfl⟩) rfl
theorem ok69 : TIok Tryz.prog tiT.get 69 i69 := mk_ti (info_at Tryz.type69) rfl rfl Tryz.underlying69 (.inr ⟨_, _, rfl, rfl, rfl, nofun, rfl⟩) rfl
theorem ok70 : TIok Tryz.prog tiT.get 70 i70 := mk_ti (info_at Tryz.type70) rfl rfl Tryz.underlying70 (.inl rfl) rfl
theorem ok71 : TIok Tryz.prog tiT.get 71 i71 := mk_ti (info_at Tryz.type71) rfl rfl Tryz.underlying71 (.inr ⟨_, _, rfl, rfl, rfl, nofun, rfl⟩) rfl
theorem ok72 : TIok Tryz.prog tiT.get 72 i72 := mk_ti (info_at Tryz.type72) rfl rfl Tryz.underlying72 (.inr ⟨_, _, rfl, rfl, rfl, nofun, rfl⟩) rfl
theorem ok73 : TIok Tryz.prog tiT.get 73 i73 := mk_ti (info_at Tryz.type73) rfl rfl Tryz.underlying73 (.inr ⟨_, _, rfl, rfl, rfl, nofun, rfl⟩) rfl
theorem ok74 : TIok Tryz.prog tiT.get 74 i74 := mk_ti (info_at Tryz.type74) rfl rfl Tryz.underlying74 (.inr ⟨_, _, rfl, rfl, rfl, nofun, rfl⟩) rfl
theorem ok75 : TIok Tryz.prog tiT.get 75 i75 := mk_ti (info_at Tryz.type75) rfl rfl Tryz.underlying75 (.inr ⟨_, _, rfl, rfl, rfl, nofun, rfl⟩) rfl
theorem ok76 : TIok Tryz.prog tiT.get 76 i76 := mk_ti (info_at Tryz.type76) rfl rfl Tryz.underlying76 (.inr ⟨_, _, rfl, rfl, rfl, nofun, rfl⟩) rfl
theorem ok77 : TIok Tryz.prog tiT.get 77 i77 := mk_ti (info_at Tryz.type77) rfl rfl Tryz.underlying77 (.inr ⟨_, _, rfl, rfl, rfl, nofun, rfl⟩) rfl
theorem ok78 : TIok Tryz.prog tiT.get 78 i78 := mk_ti (info_at Tryz.type78) rfl rfl Tryz.underlying78 (.inr ⟨_, _, rfl, rfl, rfl, nofun, rfl⟩) rfl
theorem ok79 : TIok Tryz.prog tiT.get 79 i79 := mk_ti (info_at Tryz.type79) rfl rfl Tryz.underlying79 (.inr ⟨_, _, rfl, rfl, rfl, nofun, rfl⟩) rfl
theorem ok80 : TIok Tryz.prog tiT.get 80 i80 := mk_ti (info_at Tryz.type80) rfl rfl Tryz.underlying80 (.inl rfl) rfl
theorem ok81 : TIok Tryz.prog tiT.get 81 i81 := mk_ti (info_at Tryz.type81) rfl rfl Tryz.underlying81 (.inr ⟨_, _, rfl, rfl, rfl, nofun, rfl⟩) rfl
theorem ok82 : TIok Tryz.prog tiT.get 82 i82 := mk_ti (info_at Tryz.type82) rfl rfl Tryz.underlying82 (.inr ⟨_, _, rfl, rfl, rfl, nofun, rfl⟩) rfl
theorem ok83 : TIok Tryz.prog tiT.get 83 i83 := mk_ti (info_at Tryz.type83) rfl rfl Tryz.underlying83 (.inr ⟨_, _, rfl, rfl, rfl, nofun, rfl⟩) rfl
theorem ok84 : TIok Tryz.prog tiT.get 84 i84 := mk_ti (info_at Tryz.type84) rfl rfl Tryz.underlying84 (.inr ⟨_, _, rfl, rfl, rfl, nofun, rfl⟩) rfl
theorem ok85 : TIok Tryz.prog tiT.get 85 i85 := mk_ti (info_at Tryz.type85) rfl rfl Tryz.underlying85 (.inr ⟨_, _, rfl, rfl, rfl, nofun, rfl⟩) rfl
theorem ok86 : TIok Tryz.prog tiT.get 86 i86 := mk_ti (info_at Tryz.type86) rfl rfl Tryz.underlying86 (.inr ⟨_, _, rfl, rfl, rfl, nofun, rfl⟩) rfl
theorem ok87 : TIok Tryz.prog tiT.get 87 i87 := mk_ti (info_at Tryz.type87) rfl rfl Tryz.underlying87 (.inr ⟨_, _, rfl, rfl, rfl, nofun, rfl⟩) rfl
theorem ok88 : TIok Tryz.prog tiT.get 88 i88 := mk_ti (info_at Tryz.type88) rfl rfl Tryz.underlying88 (.inr ⟨_, _, rfl, rfl, rfl, nofun, rfl⟩) rfl
theorem ok89 : TIok Tryz.prog tiT.get 89 i89 := mk_ti (info_at Tryz.type89) rfl rfl Tryz.underlying89 (.inr ⟨_, _, rfl, rfl, rfl, nofun, rfl⟩) rfl
theorem ok90 : TIok Tryz.prog tiT.get 90 i90 := mk_ti (info_at Tryz.type90) rfl rfl Tryz.underlying90 (.inr ⟨_, _, rfl, rfl, rfl, nofun, rfl⟩) rfl
theorem ok91 : TIok Tryz.prog tiT.get 91 i91 := mk_ti (info_at Tryz.type91) rfl rfl Tryz.underlying91 (.inr ⟨_, _, rfl, rfl, rfl, nofun, rfl⟩) rfl
theorem ok92 : TIok Tryz.prog tiT.get 92 i92 := mk_ti (info_at Tryz.type92) rfl rfl Tryz.underlying92 (.inr ⟨_, _, rfl, rfl, rfl, nofun, rfl⟩) rfl
theorem ok93 : TIok Tryz.prog tiT.get 93 i93 := mk_ti (info_at Tryz.type93) rfl rfl Tryz.underlying93 (.inr ⟨_, _, rfl, rfl, rfl, nofun, rfl⟩) rfl
theorem ok94 : TIok Tryz.prog tiT.get 94 i94 := mk_ti (info_at Tryz.type94) rfl rfl Tryz.underlying94 (.inr ⟨_, _, rfl, rfl, rfl, nofun, rfl⟩) rfl
theorem ok95 : TIok Tryz.prog tiT.get 95 i95 := mk_ti (info_at Tryz.type95) rfl rfl Tryz.underlying95 (.inr ⟨_, _, rfl, rfl, rfl, nofun, rfl⟩) rfl
theorem ok96 : TIok Tryz.prog tiT.get 96 i96 := mk_ti (info_at Tryz.type96) rfl rfl Tryz.underlying96 (.inr ⟨_, _, rfl, rfl, rfl, nofun, rfl⟩) rfl
theorem ok97 : TIok Tryz.prog tiT.get 97 i97 := mk_ti (info_at Tryz.type97) rfl rfl Tryz.underlying97 (.inr ⟨_, _, rfl, rfl, rfl, nofun, rfl⟩) rfl
theorem ok98 : TIok Tryz.prog tiT.get 98 i98 := mk_ti (info_at Tryz.type98) rfl rfl Tryz.underlying98 (.inr ⟨_, _, rfl, rfl, rfl, nofun, rfl⟩) rfl
theorem ok99 : TIok Tryz.prog tiT.get 99 i99 := mk_ti (info_at Tryz.type99) rfl rfl Tryz.underlying99 (.inr ⟨_, _, rfl, rfl, rfl, nofun, rfl⟩) rfl
theorem ok100 : TIok Tryz.prog tiT.get 100 i100 := mk_ti (info_at Tryz.type100) rfl rfl Tryz.underlying100 (.inr ⟨_, _, rfl, rfl, rfl, nofun, rfl⟩) rfl
theorem ok101 : TIok Tryz.prog tiT.get 101 i101 := mk_ti (info_at Tryz.type101) rfl rfl Tryz.underlying101 (.inr ⟨_, _, rfl, rfl, rfl, nofun, rfl⟩) rfl
theorem ok102 : TIok Tryz.prog tiT.get 102 i102 := mk_ti (info_at Tryz.type102) rfl rfl Tryz.underlying102 (.inr ⟨_, _, rfl, rfl, rfl, nofun, rfl⟩) rfl
theorem ok103 : TIok Tryz.prog tiT.get 103 i103 := mk_ti (info_at Tryz.type103) rfl rfl Tryz.underlying103 (.inr ⟨_, _, rfl, rfl, rfl, nofun, rfl⟩) rfl
theorem ok104 : TIok Tryz.prog tiT.get 104 i104 := mk_ti (info_at Tryz.type104) rfl rfl Tryz.underlying104 (.inr ⟨_, _, rfl, rfl, rfl, nofun, rfl⟩) rfl
theorem ok105 : TIok Tryz.prog tiT.get 105 i105 := mk_ti (info_at Tryz.type105) rfl rfl Tryz.underlying105 (.inr ⟨_, _, rfl, rfl, rfl, nofun, rfl⟩) rfl
theorem ok106 : TIok Tryz.prog tiT.get 106 i106 := mk_ti (info_at Tryz.type106) rfl rfl Tryz.underlying106 (.inr ⟨_, _, rfl, rfl, rfl, nofun, rfl⟩) rfl
theorem ok107 : TIok Tryz.prog tiT.get 107 i107 := mk_ti (info_at Tryz.type107) rfl rfl Tryz.underlying107 (.inr ⟨_, _, rfl, rfl, rfl, nofun, rfl⟩) rfl
theorem ok108 : TIok Tryz.prog tiT.get 108 i108 := mk_ti (info_at Tryz.type108) rfl rfl Tryz.underlying108 (.inr ⟨_, _, rfl, rfl, rfl, nofun, rfl⟩) rfl
theorem ok109 : TIok Tryz.prog tiT.get 109 i109 := mk_ti (info_at Tryz.type109) rfl rfl Tryz.underlying109 (.inr ⟨_, _, rfl, rfl, rfl, nofun, rfl⟩) rfl
theorem ok110 : TIok Tryz.prog tiT.get 110 i110 := mk_ti (info_at Tryz.type110) rfl rfl Tryz.underlying110 (.inr ⟨_, _, rfl, rfl, rfl, nofun, rfl⟩) rfl
theorem ok111 : TIok Tryz.prog tiT.get 111 i111 := mk_ti (info_at Tryz.type111) rfl rfl Tryz.underlying111 (.inr ⟨_, _, rfl, rfl, rfl, nofun, rfl⟩) rfl
theorem ok112 : TIok Tryz.prog tiT.get 112 i112 := mk_ti (info_at Tryz.type112) rfl rfl Tryz.underlying112 (.inr ⟨_, _, rfl, rfl, rfl, nofun, rfl⟩) rfl
theorem ok113 : TIok Tryz.prog tiT.get 113 i113 := mk_ti (info_at Tryz.type113) rfl rfl Tryz.underlying113 (.inl rfl) rfl
theorem ok114 : TIok Tryz.prog tiT.get 114 i114 := mk_ti (info_at Tryz.type114) rfl rfl Tryz.underlying114 (.inr ⟨_, _, rfl, rfl, rfl, nofun, rfl⟩) rfl
theorem ok115 : TIok Tryz.prog tiT.get 115 i115 := mk_ti (info_at Tryz.type115) rfl rfl Tryz.underlying115 (.inr ⟨_, _, rfl, rfl, rfl, nofun, rfl⟩) rfl
theorem ok116 : TIok Tryz.prog tiT.get 116 i116 := mk_ti (info_at Tryz.type116) rfl rfl Tryz.underlying116 (.inr ⟨_, _, rfl, rfl, rfl, nofun, rfl⟩) rfl
theorem ok117 : TIok Tryz.prog tiT.get 117 i117 := mk_ti (info_at Tryz.type117) rfl rfl Tryz.underlying117 (.inr ⟨_, _, rfl, rfl, rfl, nofun, rfl⟩) rfl
theorem ok118 : TIok Tryz.prog tiT.get 118 i118 := mk_ti (info_at Tryz.type118) rfl rfl Tryz.underlying118 (.inr ⟨_, _, rfl, rfl, rfl, nofun, rfl⟩) rfl
theorem ok119 : TIok Tryz.prog tiT.get 119 i119 := mk_ti (info_at Tryz.type119) rfl rfl Tryz.underlying119 (.inr ⟨_, _, rfl, rfl, rfl, nofun, rfl⟩) rfl
theorem ok120 : TIok Tryz.prog tiT.get 120 i120 := mk_ti (info_at Tryz.type120) rfl rfl Tryz.underlying120 (.inr ⟨_, _, rfl, rfl, rfl, nofun, rfl⟩) rfl
theorem ok121 : TIok Tryz.prog tiT.get 121 i121 := mk_ti (info_at Tryz.type121) rfl rfl Tryz.underlying121 (.inr ⟨_, _, rfl, rfl, rfl, nofun, rfl⟩) rfl
theorem ok122 : TIok Tryz.prog tiT.get 122 i122 := mk_ti (info_at Tryz.type122) rfl rfl Tryz.underlying122 (.inr ⟨_, _, rfl, rfl, rfl, nofun, rfl⟩) rfl
theorem ok123 : TIok Tryz.prog tiT.get 123 i123 := mk_ti (info_at Tryz.type123) rfl rfl Tryz.underlying123 (.inr ⟨_, _, rfl, rfl, rfl, nofun, rfl⟩) rfl
theorem ok124 : TIok Tryz.prog tiT.get 124 i124 := mk_ti (info_at Tryz.type124) rfl rfl Tryz.underlying124 (.inr ⟨_, _, rfl, rfl, rfl, nofun, rfl⟩) rfl
theorem ok125 : TIok Tryz.prog tiT.get 125 i125 := mk_ti (info_at Tryz.type125) rfl rfl Tryz.underlying125 (.inr ⟨_, _, rfl, rfl, rfl, nofun, rfl⟩) rfl
theorem ok126 : TIok Tryz.prog tiT.get 126 i126 := mk_ti (info_at Tryz.type126) rfl rfl Tryz.underlying126 (.inr ⟨_, _, rfl, rfl, rfl, nofun, rfl⟩) rfl
theorem ok127 : TIok Tryz.prog tiT.get 127 i127 := mk_ti (info_at Tryz.type127) rfl rfl Tryz.underlying127 (.inr ⟨_, _, rfl, rfl, rfl, nofun, rfl⟩) rfl
theorem ok128 : TIok Tryz.prog tiT.get 128 i128 := mk_ti (info_at Tryz.type128) rfl rfl Tryz.underlying128 (.inr ⟨_, _, rfl, rfl, rfl, nofun, rfl⟩) rfl
theorem ok129 : TIok Tryz.prog tiT.get 129 i129 := mk_ti (info_at Tryz.type129) rfl rfl Tryz.underlying129 (.inr ⟨_, _, rfl, rfl, rfl, nofun, rfl⟩) rfl
theorem ok130 : TIok Tryz.prog tiT.get 130 i130 := mk_ti (info_at Tryz.type130) rfl rfl Tryz.underlying130 (.inr ⟨_, _, rfl, rfl, rfl, nofun, rfl⟩) rfl
theorem ok131 : TIok Tryz.prog tiT.get 131 i131 := mk_ti (info_at Tryz.type131) rfl rfl Tryz.underlying131 (.inr ⟨_, _, rfl, rfl, rfl, nofun, rfl⟩) rfl
theorem ok132 : TIok Tryz.prog tiT.get 132 i132 := mk_ti (info_at Tryz.type132) rfl rfl Tryz.underlying132 (.inr ⟨_, _, rfl, rfl, rfl, nofun, rfl⟩) rfl
theorem ok133 : TIok Tryz.prog tiT.get 133 i133 := mk_ti (info_at Tryz.type133) rfl rfl Tryz.underlying133 (.inr ⟨_, _, rfl, rfl, rfl, nofun, rfl⟩) rfl
theorem ok134 : TIok Tryz.prog tiT.get 134 i134 := mk_ti (info_at Tryz.type134) rfl rfl Tryz.underlying134 (.inr ⟨_, _, rfl, rfl, rfl, nofun, rfl⟩) rfl
theorem ok135 : TIok Tryz.prog tiT.get 135 i135 := mk_ti (info_at Tryz.type135) rfl rfl Tryz.underlying135 (.inr ⟨_, _, rfl, rfl, rfl, nofun, rfl⟩) rfl
theorem ok136 : TIok Tryz.prog tiT.get 136 i136 := mk_ti (info_at Tryz.type136) rfl rfl Tryz.underlying136 (.inr ⟨_, _, rfl, rfl, rfl, nofun, rfl⟩) rfl
theorem ok137 : TIok Tryz.prog tiT.get 137 i137 := mk_ti (info_at Tryz.type137) rfl rfl Tryz.underlying137 (.inr ⟨_, _, rfl, rfl, rfl, nofun, rfl⟩) rfl
theorem ok138 : TIok Tryz.prog tiT.get 138 i138 := mk_ti (info_at Tryz.type138) rfl rfl Tryz.underlying138 (.inr ⟨_, _, rfl, rfl, rfl, nofun, rfl⟩) rfl
theorem ok139 : TIok Tryz.prog tiT.get 139 i139 := mk_ti (info_at Tryz.type139) rfl rfl Tryz.underlying139 (.inr ⟨_, _, rfl, rfl, rfl, nofun, rfl⟩) rfl
theorem ok140 : TIok Tryz.prog tiT.get 140 i140 := mk_ti (info_at Tryz.type140) rfl rfl Tryz.underlying140 (.inr ⟨_, _, rfl, rfl, rfl, nofun, rfl⟩) rfl
theorem ok141 : TIok Tryz.prog tiT.get 141 i141 := mk_ti (info_at Tryz.type141) rfl rfl Tryz.underlying141 (.inr ⟨_, _, rfl, rfl, rfl, nofun, rfl⟩) rfl
theorem ok142 : TIok Tryz.prog tiT.get 142 i142 := mk_ti (info_at Tryz.type142) rfl rfl Tryz.underlying142 (.inr ⟨_, _, rfl, rfl, rfl, nofun, rfl⟩) rfl
theorem ok143 : TIok Tryz.prog tiT.get 143 i143 := mk_ti (info_at Tryz.type143) rfl rfl Tryz.underlying143 (.inr ⟨_, _, rfl, rfl, rfl, nofun, rfl⟩) rfl
theorem ok144 : TIok Tryz.prog tiT.get 144 i144 := mk_ti (info_at Tryz.type144) rfl rfl Tryz.underlying144 (.inr ⟨_, _, rfl, rfl, rfl, nofun, rfl⟩) rfl
theorem ok145 : TIok Tryz.prog tiT.get 145 i145 := mk_ti (info_at Tryz.type145) rfl rfl Tryz.underlying145 (.inr ⟨_, _, rfl, rfl, rfl, nofun, rfl⟩) rfl
theorem ok146 : TIok Tryz.prog tiT.get 146 i146 := mk_ti (info_at Tryz.type146) rfl rfl Tryz.underlying146 (.inr ⟨_, _, rfl, rfl, rfl, nofun, rfl⟩) rfl
theorem ok147 : TIok Tryz.prog tiT.get 147 i147 := mk_ti (info_at Tryz.type147) rfl rfl Tryz.underlying147 (.inr ⟨_, _, rfl, rfl, rfl, nofun, rfl⟩) rfl
theorem ok148 : TIok Tryz.prog tiT.get 148 i148 := mk_ti (info_at Tryz.type148) rfl rfl Tryz.underlying148 (.inr ⟨_, _, rfl, rfl, rfl, nofun, rfl⟩) rfl
theorem ok149 : TIok Tryz.prog tiT.get 149 i149 := mk_ti (info_at Tryz.type149) rfl rfl Tryz.underlying149 (.inr ⟨_, _, rfl, rfl, rfl, nofun, rfl⟩) rfl
theorem ok150 : TIok Tryz.prog tiT.get 150 i150 := mk_ti (info_at Tryz.type150) rfl rfl Tryz.underlying150 (.inr ⟨_, _, rfl, rfl, rfl, nofun, rfl⟩) rfl
theorem ok151 : TIok Tryz.prog tiT.get 151 i151 := mk_ti (info_at Tryz.type151) rfl rfl Tryz.underlying151 (.inr ⟨_, _, rfl, rfl, rfl, nofun, rfl⟩) rfl
theorem ok152 : TIok Tryz.prog tiT.get 152 i152 := mk_ti (info_at Tryz.type152) rfl rfl Tryz.underlying152 (.inr ⟨_, _, rfl, rfl, rfl, nofun, rfl⟩) rfl
theorem ok153 : TIok Tryz.prog tiT.get 153 i153 := mk_ti (info_at Tryz.type153) rfl rfl Tryz.underlying153 (.inr ⟨_, _, rfl, rfl, rfl, nofun, rfl⟩) rfl
theorem ok154 : TIok Tryz.prog tiT.get 154 i154 := mk_ti (info_at Tryz.type154) rfl rfl Tryz.underlying154 (.inr ⟨_, _, rfl, rfl, rfl, nofun, rfl⟩) rfl
theorem ok155 : TIok Tryz.prog tiT.get 155 i155 := mk_ti (info_at Tryz.type155) rfl rfl Tryz.underlying155 (.inr ⟨_, _, rfl, rfl, rfl, nofun, rfl⟩) rfl
theorem ok156 : TIok Tryz.prog tiT.get 156 i156 := mk_ti (info_at Tryz.type156) rfl rfl Tryz.underlying156 (.inr ⟨_, _, rfl, rfl, rfl, nofun, rfl⟩) rfl
theorem ok157 : TIok Tryz.prog tiT.get 157 i157 := mk_ti (info_at Tryz.type157) rfl rfl Tryz.underlying157 (.inr ⟨_, _, rfl, rfl, rfl, nofun, rfl⟩) rfl
theorem ok158 : TIok Tryz.prog tiT.get 158 i158 := mk_ti (info_at Tryz.type158) rfl rfl Tryz.underlying158 (.inr ⟨_, _, rfl, rfl, rfl, nofun, rfl⟩) rfl
theorem ok159 : TIok Tryz.prog tiT.get 159 i159 := mk_ti (info_at Tryz.type159) rfl rfl Tryz.underlying159 (.inr ⟨_, _, rfl, rfl, rfl, nofun, rfl⟩) rfl
theorem ok160 : TIok Tryz.prog tiT.get 160 i160 := mk_ti (info_at Tryz.type160) rfl rfl Tryz.underlying160 (.inr ⟨_, _, rfl, rfl, rfl, nofun, rfl⟩) rfl
theorem ok161 : TIok Tryz.prog tiT.get 161 i161 := mk_ti (info_at Tryz.type161) rfl rfl Tryz.underlying161 (.inr ⟨_, _, rfl, rfl, rfl, nofun, rfl⟩) rfl
theorem ok162 : TIok Tryz.prog tiT.get 162 i162 := mk_ti (info_at Tryz.type162) rfl rfl Tryz.underlying162 (.inr ⟨_, _, rfl, rfl, rfl, nofun, rfl⟩) rfl
theorem ok163 : TIok Tryz.prog tiT.get 163 i163 := mk_ti (info_at Tryz.type163) rfl rfl Tryz.underlying163 (.inr ⟨_, _, rfl, rfl, rfl, nofun, rfl⟩) rfl
theorem ok164 : TIok Tryz.prog tiT.get 164 i164 := mk_ti (info_at Tryz.type164) rfl rfl Tryz.underlying164 (.inr ⟨_, _, rfl, rfl, rfl, nofun, rfl⟩) rfl
theorem ok165 : TIok Tryz.prog tiT.get 165 i165 := mk_ti (info_at Tryz.type165) rfl rfl Tryz.underlying165 (.inl rfl) rfl
theorem ok166 : TIok Tryz.prog tiT.get 166 i166 := mk_ti (info_at Tryz.type166) rfl rfl Tryz.underlying166 (.inr ⟨_, _, rfl, rfl, rfl, nofun, rfl⟩) rfl
theorem ok167 : TIok Tryz.prog tiT.get 167 i167 := mk_ti (info_at Tryz.type167) rfl rfl Tryz.underlying167 (.inr ⟨_, _, rfl, rfl, rfl, nofun, rfl⟩) rfl
theorem ok168 : TIok Tryz.prog tiT.get 168 i168 := mk_ti (info_at Tryz.type168) rfl rfl Tryz.underlying168 (.inr ⟨_, _, rfl, rfl, rfl, nofun, rfl⟩) rfl
theorem ok169 : TIok Tryz.prog tiT.get 169 i169 := mk_ti (info_at Tryz.type169) rfl rfl Tryz.underlying169 (.inr ⟨_, _, rfl, rfl, rfl, nofun, rfl⟩) rfl
theorem ok170 : TIok Tryz.prog tiT.get 170 i170 := mk_ti (info_at Tryz.type170) rfl rfl Tryz.underlying170 (.inr ⟨_, _, rfl, rfl, rfl, nofun, rfl⟩) rfl
theorem ok171 : TIok Tryz.prog tiT.get 171 i171 := mk_ti (info_at Tryz.type171) rfl rfl Tryz.underlying171 (.inr ⟨_, _, rfl, rfl, rfl, nofun, rfl⟩) rfl
theorem ok172 : TIok Tryz.prog tiT.get 172 i172 := mk_ti (info_at Tryz.type172) rfl rfl Tryz.underlying172 (.inr ⟨_, _, rfl, rfl, rfl, nofun, rfl⟩) rfl
theorem ok173 : TIok Tryz.prog tiT.get 173 i173 := mk_ti (info_at Tryz.type173) rfl rfl Tryz.underlying173 (.inr ⟨_, _, rfl, rfl, rfl, nofun, rfl⟩) rfl
theorem ok174 : TIok Tryz.prog tiT.get 174 i174 := mk_ti (info_at Tryz.type174) rfl rfl Tryz.underlying174 (.inr ⟨_, _, rfl, rfl, rfl, nofun, rfl⟩) rfl
theorem ok175 : TIok Tryz.prog tiT.get 175 i175 := mk_ti (info_at Tryz.type175) rfl rfl Tryz.underlying175 (.inr ⟨_, _, rfl, rfl, rfl, nofun, rfl⟩) rfl
theorem ok176 : TIok Tryz.prog tiT.get 176 i176 := mk_ti (info_at Tryz.type176) rfl rfl Tryz.underlying176 (.inr ⟨_, _, rfl, rfl, rfl, nofun, rfl⟩) rfl
theorem ok177 : TIok Tryz.prog tiT.get 177 i177 := mk_ti (info_at Tryz.type177) rfl rfl Tryz.underlying177 (.inr ⟨_, _, rfl, rfl, rfl, nofun, rfl⟩) rfl
theorem ok178 : TIok Tryz.prog tiT.get 178 i178 := mk_ti (info_at Tryz.type178) rfl rfl Tryz.underlying178 (.inr ⟨_, _, rfl, rfl, rfl, nofun, rfl⟩) rfl
theorem ok179 : TIok Tryz.prog tiT.get 179 i179 := mk_ti (info_at Tryz.type179) rfl rfl Tryz.underlying179 (.inr ⟨_, _, rfl, rfl, rfl, nofun, rfl⟩) rfl
theorem ok180 : TIok Tryz.prog tiT.get 180 i180 := mk_ti (info_at Tryz.type180) rfl rfl Tryz.underlying180 (.inr ⟨_, _, rfl, rfl, rfl, nofun, rfl⟩) rfl
theorem ok181 : TIok Tryz.prog tiT.get 181 i181 := mk_ti (info_at Tryz.type181) rfl rfl Tryz.underlying181 (.inr ⟨_, _, rfl, rfl, rfl, nofun, rfl⟩) rfl
theorem ok182 : TIok Tryz.prog tiT.get 182 i182 := mk_ti (info_at Tryz.type182) rfl rfl Tryz.underlying182 (.inr ⟨_, _, rfl, rfl, rfl, nofun, rfl⟩) rfl
theorem ok183 : TIok Tryz.prog tiT.get 183 i183 := mk_ti (info_at Tryz.type183) rfl rfl Tryz.underlying183 (.inr ⟨_, _, rfl, rfl, rfl, nofun, rfl⟩) rfl
theorem ok184 : TIok Tryz.prog tiT.get 184 i184 := mk_ti (info_at Tryz.type184) rfl rfl Tryz.underlying184 (.inr ⟨_, _, rfl, rfl, rfl, nofun, rfl⟩) rfl
theorem ok185 : TIok Tryz.prog tiT.get 185 i185 := mk_ti (info_at Tryz.type185) rfl rfl Tryz.underlying185 (.inr ⟨_, _, rfl, rfl, rfl, nofun, rfl⟩) rfl
theorem ok186 : TIok Tryz.prog tiT.get 186 i186 := mk_ti (info_at Tryz.type186) rfl rfl Tryz.underlying186 (.inr ⟨_, _, rfl, rfl, rfl, nofun, rfl⟩) rfl
theorem ok187 : TIok Tryz.prog tiT.get 187 i187 := mk_ti (info_at Tryz.type187) rfl rfl Tryz.underlying187 (.inr ⟨_, _, rfl, rfl, rfl, nofun, rfl⟩) rfl
theorem ok188 : TIok Tryz.prog tiT.get 188 i188 := mk_ti (info_at Tryz.type188) rfl rfl Tryz.underlying188 (.inr ⟨_, _, rfl, rfl, rfl, nofun, rfl⟩) rfl
theorem ok189 : TIok Tryz.prog tiT.get 189 i189 := mk_ti (info_at Tryz.type189) rfl rfl Tryz.underlying189 (.inr ⟨_, _, rfl, rfl, rfl, nofun, rfl⟩) rfl
theorem ok190 : TIok Tryz.prog tiT.get 190 i190 := mk_ti (info_at Tryz.type190) rfl rfl Tryz.underlying190 (.inr ⟨_, _, rfl, rfl, rfl, nofun, rfl⟩) rfl
theorem ok191 : TIok Tryz.prog tiT.get 191 i191 := mk_ti (info_at Tryz.type191) rfl rfl Tryz.underlying191 (.inr ⟨_, _, rfl, rfl, rfl, nofun, rfl⟩) rfl
theorem ok192 : TIok Tryz.prog tiT.get 192 i192 := mk_ti (info_at Tryz.type192) rfl rfl Tryz.underlying192 (.inr ⟨_, _, rfl, rfl, rfl, nofun, rfl⟩) rfl
theorem ok193 : TIok Tryz.prog tiT.get 193 i193 := mk_ti (info_at Tryz.type193) rfl rfl Tryz.underlying193 (.inr ⟨_, _, rfl, rfl, rfl, nofun, rfl⟩) rfl
theorem ok194 : TIok Tryz.prog tiT.get 194 i194 := mk_ti (info_at Tryz.type194) rfl rfl Tryz.underlying194 (.inr ⟨_, _, rfl, rfl, rfl, nofun, rfl⟩) rfl
theorem ok195 : TIok Tryz.prog tiT.get 195 i195 := mk_ti (info_at Tryz.type195) rfl rfl Tryz.underlying195 (.inr ⟨_, _, rfl, rfl, rfl, nofun, rfl⟩) rfl
theorem ok196 : TIok Tryz.prog tiT.get 196 i196 := mk_ti (info_at Tryz.type196) rfl rfl Tryz.underlying196 (.inr ⟨_, _, rfl, rfl, rfl, nofun, rfl⟩) rfl
theorem ok197 : TIok Tryz.prog tiT.get 197 i197 := mk_ti (info_at Tryz.type197) rfl rfl Tryz.underlying197 (.inr ⟨_, _, rfl, rfl, rfl, nofun, rfl⟩) rfl
theorem ok198 : TIok Tryz.prog tiT.get 198 i198 := mk_ti (info_at Tryz.type198) rfl rfl Tryz.underlying198 (.inr ⟨_, _, rfl, rfl, rfl, nofun, rfl⟩) rfl
theorem ok199 : TIok Tryz.prog tiT.get 199 i199 := mk_ti (info_at Tryz.type199) rfl rfl Tryz.underlying199 (.inl rfl) rfl
theorem ok200 : TIok Tryz.prog tiT.get 200 i200 := mk_ti (info_at Tryz.type200) rfl rfl Tryz.underlying200 (.inr ⟨_, _, rfl, rfl, rfl, nofun, rfl⟩) rfl
theorem ok201 : TIok Tryz.prog tiT.get 201 i201 := mk_ti (info_at Tryz.type201) rfl rfl Tryz.underlying201 (.inr ⟨_, _, rfl, rfl, rfl, nofun, rfl⟩) rfl
theorem ok202 : TIok Tryz.prog tiT.get 202 i202 := mk_ti (info_at Tryz.type202) rfl rfl Tryz.underlying202 (.inr ⟨_, _, rfl, rfl, rfl, nofun, rfl⟩) rfl
theorem ok203 : TIok Tryz.prog tiT.get 203 i203 := mk_ti (info_at Tryz.type203) rfl rfl Tryz.underlying203 (.inr ⟨_, _, rfl, rfl, rfl, nofun, rfl⟩) rfl
theorem ok204 : TIok Tryz.prog tiT.get 204 i204 := mk_ti (info_at Tryz.type204) rfl rfl Tryz.underlying204 (.inr ⟨_, _, rfl, rfl, rfl, nofun, rfl⟩) rfl
theorem ok205 : TIok Tryz.prog tiT.get 205 i205 := mk_ti (info_at Tryz.type205) rfl rfl Tryz.underlying205 (.inr ⟨_, _, rfl, rfl, rfl, nofun, rfl⟩) rfl
theorem ok206 : TIok Tryz.prog tiT.get 206 i206 := mk_ti (info_at Tryz.type206) rfl rfl Tryz.underlying206 (.inr ⟨_, _, rfl, rfl, rfl, nofun, rfl⟩) rfl
theorem ok207 : TIok Tryz.prog tiT.get 207 i207 := mk_ti (info_at Tryz.type207) rfl rfl Tryz.underlying207 (.inr ⟨_, _, rfl, rfl, rfl, nofun, rfl⟩) rfl
theorem ok208 : TIok Tryz.prog tiT.get 208 i208 := mk_ti (info_at Tryz.type208) rfl rfl Tryz.underlying208 (.inr ⟨_, _, rfl, rfl, rfl, nofun, rfl⟩) rfl
theorem ok209 : TIok Tryz.prog tiT.get 209 i209 := mk_ti (info_at Tryz.type209) rfl rfl Tryz.underlying209 (.inr ⟨_, _, rfl, rfl, rfl, nofun, rfl⟩) rfl
theorem ok210 : TIok Tryz.prog tiT.get 210 i210 := mk_ti (info_at Tryz.type210) rfl rfl Tryz.underlying210 (.inr ⟨_, _, rfl, rfl, rfl, nofun, rfl⟩) rfl
theorem ok211 : TIok Tryz.prog tiT.get 211 i211 := mk_ti (info_at Tryz.type211) rfl rfl Tryz.underlying211 (.inr ⟨_, _, rfl, rfl, rfl, nofun, rfl⟩) rfl
theorem ok212 : TIok Tryz.prog tiT.get 212 i212 := mk_ti (info_at Tryz.type212) rfl rfl Tryz.underlying212 (.inl rfl) rfl
theorem ok213 : TIok Tryz.prog tiT.get 213 i213 := mk_ti (info_at Tryz.type213) rfl rfl Tryz.underlying213 (.inr ⟨_, _, rfl, rfl, rfl, nofun, rfl⟩) rfl
theorem ok214 : TIok Tryz.prog tiT.get 214 i214 := mk_ti (info_at Tryz.type214) rfl rfl Tryz.underlying214 (.inl rfl) rfl
theorem ok215 : TIok Tryz.prog tiT.get 215 i215 := mk_ti (info_at Tryz.type215) rfl rfl Tryz.underlying215 (.inr ⟨_, _, rfl, rfl, rfl, nofun, rfl⟩) rfl
theorem ok216 : TIok Tryz.prog tiT.get 216 i216 := mk_ti (info_at Tryz.type216) rfl rfl Tryz.underlying216 (.inr ⟨_, _, rfl, rfl, rfl, nofun, rfl⟩) rfl
theorem ok217 : TIok Tryz.prog tiT.get 217 i217 := mk_ti (info_at Tryz.type217) rfl rfl Tryz.underlying217 (.inr ⟨_, _, rfl, rfl, rfl, nofun, rfl⟩) rfl
theorem ok218 : TIok Tryz.prog tiT.get 218 i218 := mk_ti (info_at Tryz.type218) rfl rfl Tryz.underlying218 (.inr ⟨_, _, rfl, rfl, rfl, nofun, rfl⟩) rfl
theorem ok219 : TIok Tryz.prog tiT.get 219 i219 := mk_ti (info_at Tryz.type219) rfl rfl Tryz.underlying219 (.inr ⟨_, _, rfl, rfl, rfl, nofun, rfl⟩) rfl
theorem ok220 : TIok Tryz.prog tiT.get 220 i220 := mk_ti (info_at Tryz.type220) rfl rfl Tryz.underlying220 (.inr ⟨_, _, rfl, rfl, rfl, nofun, rfl⟩) rfl
theorem ok221 : TIok Tryz.prog tiT.get 221 i221 := mk_ti (info_at Tryz.type221) rfl rfl Tryz.underlying221 (.inr ⟨_, _, rfl, rfl, rfl, nofun, rfl⟩) rfl
theorem ok222 : TIok Tryz.prog tiT.get 222 i222 := mk_ti (info_at Tryz.type222) rfl rfl Tryz.underlying222 (.inr ⟨_, _, rfl, rfl, rfl, nofun, rfl⟩) rfl
theorem ok223 : TIok Tryz.prog tiT.get 223 i223 := mk_ti (info_at Tryz.type223) rfl rfl Tryz.underlying223 (.inr ⟨_, _, rfl, rfl, rfl, nofun, rfl⟩) rfl
theorem ok224 : TIok Tryz.prog tiT.get 224 i224 := mk_ti (info_at Tryz.type224) rfl rfl Tryz.underlying224 (.inr ⟨_, _, rfl, rfl, rfl, nofun, rfl⟩) rfl
theorem ok225 : TIok Tryz.prog tiT.get 225 i225 := mk_ti (info_at Tryz.type225) rfl rfl Tryz.underlying225 (.inr ⟨_, _, rfl, rfl, rfl, nofun, rfl⟩) rfl
theorem ok226 : TIok Tryz.prog tiT.get 226 i226 := mk_ti (info_at Tryz.type226) rfl rfl Tryz.underlying226 (.inr ⟨_, _, rfl, rfl, rfl, nofun, rfl⟩) rfl
theorem ok227 : TIok Tryz.prog tiT.get 227 i227 := mk_ti (info_at Tryz.type227) rfl rfl Tryz.underlying227 (.inr ⟨_, _, rfl, rfl, rfl, nofun, rfl⟩) rfl
theorem ok228 : TIok Tryz.prog tiT.get 228 i228 := mk_ti (info_at Tryz.type228) rfl rfl Tryz.underlying228 (.inr ⟨_, _, rfl, rfl, rfl, nofun, rfl⟩) rfl
theorem ok229 : TIok Tryz.prog tiT.get 229 i229 := mk_ti (info_at Tryz.type229) rfl rfl Tryz.underlying229 (.inr ⟨_, _, rfl, rfl, rfl, nofun, rfl⟩) rfl
theorem ok230 : TIok Tryz.prog tiT.get 230 i230 := mk_ti (info_at Tryz.type230) rfl rfl Tryz.underlying230 (.inr ⟨_, _, rfl, rfl, rfl, nofun, rfl⟩) rfl
theorem ok231 : TIok Tryz.prog tiT.get 231 i231 := mk_ti (info_at Tryz.type231) rfl rfl Tryz.underlying231 (.inr ⟨_, _, rfl, rfl, rfl, nofun, rfl⟩) rfl
theorem ok232 : TIok Tryz.prog tiT.get 232 i232 := mk_ti (info_at Tryz.type232) rfl rfl Tryz.underlying232 (.inr ⟨_, _, rfl, rfl, rfl, nofun, rfl⟩) rfl
theorem ok233 : TIok Tryz.prog tiT.get 233 i233 := mk_ti (info_at Tryz.type233) rfl rfl Tryz.underlying233 (.inr ⟨_, _, rfl, rfl, rfl, nofun, rfl⟩) rfl
theorem ok234 : TIok Tryz.prog tiT.get 234 i234 := mk_ti (info_at Tryz.type234) rfl rfl Tryz.underlying234 (.inr ⟨_, _, rfl, rfl, rfl, nofun, rfl⟩) rfl
theorem ok235 : TIok Tryz.prog tiT.get 235 i235 := mk_ti (info_at Tryz.type235) rfl rfl Tryz.underlying235 (.inr ⟨_, _, rfl, rfl, rfl, nofun, rfl⟩) rfl
theorem ok236 : TIok Tryz.prog tiT.get 236 i236 := mk_ti (info_at Tryz.type236) rfl rfl Tryz.underlying236 (.inr ⟨_, _, rfl, rfl, rfl, nofun, rfl⟩) rfl
theorem ok237 : TIok Tryz.prog tiT.get 237 i237 := mk_ti (info_at Tryz.type237) rfl rfl Tryz.underlying237 (.inr ⟨_, _, rfl, rfl, rfl, nofun, rfl⟩) rfl
theorem ok238 : TIok Tryz.prog tiT.get 238 i238 := mk_ti (info_at Tryz.type238) rfl rfl Tryz.underlying238 (.inr ⟨_, _, rfl, rfl, rfl, nofun, rfl⟩) rfl
theorem ok239 : TIok Tryz.prog tiT.get 239 i239 := mk_ti (info_at Tryz.type239) rfl rfl Tryz.underlying239 (.inr ⟨_, _, rfl, rfl, rfl, nofun, rfl⟩) rfl
theorem ok240 : TIok Tryz.prog tiT.get 240 i240 := mk_ti (info_at Tryz.type240) rfl rfl Tryz.underlying240 (.inr ⟨_, _, rfl, rfl, rfl, nofun, rfl⟩) rfl
theorem ok241 : TIok Tryz.prog tiT.get 241 i241 := mk_ti (info_at Tryz.type241) rfl rfl Tryz.underlying241 (.inr ⟨_, _, rfl, rfl, rfl, nofun, rfl⟩) rfl
theorem ok242 : TIok Tryz.prog tiT.get 242 i242 := mk_ti (info_at Tryz.type242) rfl rfl Tryz.underlying242 (.inr ⟨_, _, rfl, rfl, rfl, nofun, rfl⟩) rfl
theorem ok243 : TIok Tryz.prog tiT.get 243 i243 := mk_ti (info_at Tryz.type243) rfl rfl Tryz.underlying243 (.inl rfl) rfl
theorem ok244 : TIok Tryz.prog tiT.get 244 i244 := mk_ti (info_at Tryz.type244) rfl rfl Tryz.underlying244 (.inr ⟨_, _, rfl, rfl, rfl, nofun, rfl⟩) rfl
theorem ok245 : TIok Tryz.prog tiT.get 245 i245 := mk_ti (info_at Tryz.type245) rfl rfl Tryz.underlying245 (.inr ⟨_, _, rfl, rfl, rfl, nofun, rfl⟩) rfl
theorem ok246 : TIok Tryz.prog tiT.get 246 i246 := mk_ti (info_at Tryz.type246) rfl rfl Tryz.underlying246 (.inr ⟨_, _, rfl, rfl, rfl, nofun, rfl⟩) rfl
theorem ok247 : TIok Tryz.prog tiT.get 247 i247 := mk_ti (info_at Tryz.type247) rfl rfl Tryz.underlying247 (.inr ⟨_, _, rfl, rfl, rfl, nofun, rfl⟩) rfl
theorem ok248 : TIok Tryz.prog tiT.get 248 i248 := mk_ti (info_at Tryz.type248) rfl rfl Tryz.underlying248 (.inr ⟨_, _, rfl, rfl, rfl, nofun, rfl⟩) rfl
theorem ok249 : TIok Tryz.prog tiT.get 249 i249 := mk_ti (info_at Tryz.type249) rfl rfl Tryz.underlying249 (.inr ⟨_, _, rfl, rfl, rfl, nofun, rfl⟩) rfl
theorem ok250 : TIok Tryz.prog tiT.get 250 i250 := mk_ti (info_at Tryz.type250) rfl rfl Tryz.underlying250 (.inl rfl) rfl
theorem ok251 : TIok Tryz.prog tiT.get 251 i251 := mk_ti (info_at Tryz.type251) rfl rfl Tryz.underlying251 (.inr ⟨_, _, rfl, rfl, rfl, nofun, rfl⟩) rfl
theorem ok252 : TIok Tryz.prog tiT.get 252 i252 := mk_ti (info_at Tryz.type252) rfl rfl Tryz.underlying252 (.inr ⟨_, _, rfl, rfl, rfl, nofun, rfl⟩) rfl
theorem ok253 : TIok Tryz.prog tiT.get 253 i253 := mk_ti (info_at Tryz.type253) rfl rfl Tryz.underlying253 (.inr ⟨_, _, rfl, rfl, rfl, nofun, rfl⟩) rfl
theorem ok254 : TIok Tryz.prog tiT.get 254 i254 := mk_ti (info_at Tryz.type254) rfl rfl Tryz.underlying254 (.inl rfl) rfl
theorem ok255 : TIok Tryz.prog tiT.get 255 i255 := mk_ti (info_at Tryz.type255) rfl rfl Tryz.underlying255 (.inr ⟨_, _, rfl, rfl, rfl, nofun, rfl⟩) rfl
theorem ok256 : TIok Tryz.prog tiT.get 256 i256 := mk_ti (info_at Tryz.type256) rfl rfl Tryz.underlying256 (.inr ⟨_, _, rfl, rfl, rfl, nofun, rfl⟩) rfl
theorem ok257 : TIok Tryz.prog tiT.get 257 i257 := mk_ti (info_at Tryz.type257) rfl rfl Tryz.underlying257 (.inr ⟨_, _, rfl, rfl, rfl, nofun, rfl⟩) rfl
theorem ok258 : TIok Tryz.prog tiT.get 258 i258 := mk_ti (info_at Tryz.type258) rfl rfl Tryz.underlying258 (.inr ⟨_, _, rfl, rfl, rfl, nofun, rfl⟩) rfl
theorem ok259 : TIok Tryz.prog tiT.get 259 i259 := mk_ti (info_at Tryz.type259) rfl rfl Tryz.underlying259 (.inr ⟨_, _, rfl, rfl, rfl, nofun, rfl⟩) rfl
theorem ok260 : TIok Tryz.prog tiT.get 260 i260 := mk_ti (info_at Tryz.type260) rfl rfl Tryz.underlying260 (.inr ⟨_, _, rfl, rfl, rfl, nofun, rfl⟩) rfl
theorem ok261 : TIok Tryz.prog tiT.get 261 i261 := mk_ti (info_at Tryz.type261) rfl rfl Tryz.underlying261 (.inr ⟨_, _, rfl, rfl, rfl, nofun, rfl⟩) rfl
theorem ok262 : TIok Tryz.prog tiT.get 262 i262 := mk_ti (info_at Tryz.type262) rfl rfl Tryz.underlying262 (.inr ⟨_, _, rfl, rfl, rfl, nofun, rfl⟩) rfl
theorem ok263 : TIok Tryz.prog tiT.get 263 i263 := mk_ti (info_at Tryz.type263) rfl rfl Tryz.underlying263 (.inr ⟨_, _, rfl, rfl, rfl, nofun, rfl⟩) rfl
theorem ok264 : TIok Tryz.prog tiT.get 264 i264 := mk_ti (info_at Tryz.type264) rfl rfl Tryz.underlying264 (.inl rfl) rfl
theorem ok265 : TIok Tryz.prog tiT.get 265 i265 := mk_ti (info_at Tryz.type265) rfl rfl Tryz.underlying265 (.inr ⟨_, _, rfl, rfl, rfl, nofun, rfl⟩) rfl
theorem ok266 : TIok Tryz.prog tiT.get 266 i266 := mk_ti (info_at Tryz.type266) rfl rfl Tryz.underlying266 (.inr ⟨_, _, rfl, rfl, rfl, nofun, rfl⟩) rfl
theorem ok267 : TIok Tryz.prog tiT.get 267 i267 := mk_ti (info_at Tryz.type267) rfl rfl Tryz.underlying267 (.inr ⟨_, _, rfl, rfl, rfl, nofun, rfl⟩) rfl
theorem ok268 : TIok Tryz.prog tiT.get 268 i268 := mk_ti (info_at Tryz.type268) rfl rfl Tryz.underlying268 (.inr ⟨_, _, rfl, rfl, rfl, nofun, rfl⟩) rfl
theorem ok269 : TIok Tryz.prog tiT.get 269 i269 := mk_ti (info_at Tryz.type269) rfl rfl Tryz.underlying269 (.inl rfl) rfl
theorem ok270 : TIok Tryz.prog tiT.get 270 i270 := mk_ti (info_at Tryz.type270) rfl rfl Tryz.underlying270 (.inr ⟨_, _, rfl, rfl, rfl, nofun, rfl⟩) rfl
theorem ok271 : TIok Tryz.prog tiT.get 271 i271 := mk_ti (info_at Tryz.type271) rfl rfl Tryz.underlying271 (.inr ⟨_, _, rfl, rfl, rfl, nofun, rfl⟩) rfl
theorem ok272 : TIok Tryz.prog tiT.get 272 i272 := mk_ti (info_at Tryz.type272) rfl rfl Tryz.underlying272 (.inr ⟨_, _, rfl, rfl, rfl, nofun, rfl⟩) rfl
theorem ok273 : TIok Tryz.prog tiT.get 273 i273 := mk_ti (info_at Tryz.type273) rfl rfl Tryz.underlying273 (.inl rfl) rfl
theorem ok274 : TIok Tryz.prog tiT.get 274 i274 := mk_ti (info_at Tryz.type274) rfl rfl Tryz.underlying274 (.inr ⟨_, _, rfl, rfl, rfl, nofun, rfl⟩) rfl
theorem ok275 : TIok Tryz.prog tiT.get 275 i275 := mk_ti (info_at Tryz.type275) rfl rfl Tryz.underlying275 (.inr ⟨_, _, rfl, rfl, rfl, nofun, rfl⟩) rfl
theorem ok276 : TIok Tryz.prog tiT.get 276 i276 := mk_ti (info_at Tryz.type276) rfl rfl Tryz.underlying276 (.inr ⟨_, _, rfl, rfl, rfl, nofun, rfl⟩) rfl
theorem ok277 : TIok Tryz.prog tiT.get 277 i277 := mk_ti (info_at Tryz.type277) rfl rfl Tryz.underlying277 (.inr ⟨_, _, rfl, rfl, rfl, nofun, rfl⟩) rfl
theorem ok278 : TIok Tryz.prog tiT.get 278 i278 := mk_ti (info_at Tryz.type278) rfl rfl Tryz.underlying278 (.inr ⟨_, _, rfl, rfl, rfl, nofun, rfl⟩) rfl
theorem ok279 : TIok Tryz.prog tiT.get 279 i279 := mk_ti (info_at Tryz.type279) rfl rfl Tryz.underlying279 (.inr ⟨_, _, rfl, rfl, rfl, nofun, rfl⟩) rfl
theorem ok280 : TIok Tryz.prog tiT.get 280 i280 := mk_ti (info_at Tryz.type280) rfl rfl Tryz.underlying280 (.inr ⟨_, _, rfl, rfl, rfl, nofun, rfl⟩) rfl
theorem ok281 : TIok Tryz.prog tiT.get 281 i281 := mk_ti (info_at Tryz.type281) rfl rfl Tryz.underlying281 (.inl rfl) rfl
theorem ok282 : TIok Tryz.prog tiT.get 282 i282 := mk_ti (info_at Tryz.type282) rfl rfl Tryz.underlying282 (.inr ⟨_, _, rfl, rfl, rfl, nofun, rfl⟩) rfl
theorem ok283 : TIok Tryz.prog tiT.get 283 i283 := mk_ti (info_at Tryz.type283) rfl rfl Tryz.underlying283 (.inr ⟨_, _, rfl, rfl, rfl, nofun, rfl⟩) rfl
theorem ok284 : TIok Tryz.prog tiT.get 284 i284 := mk_ti (info_at Tryz.type284) rfl rfl Tryz.underlying284 (.inr ⟨_, _, rfl, rfl, rfl, nofun, rfl⟩) rfl
theorem ok285 : TIok Tryz.prog tiT.get 285 i285 := mk_ti (info_at Tryz.type285) rfl rfl Tryz.underlying285 (.inr ⟨_, _, rfl, rfl, rfl, nofun, rfl⟩) rfl
theorem ok286 : TIok Tryz.prog tiT.get 286 i286 := mk_ti (info_at Tryz.type286) rfl rfl Tryz.underlying286 (.inr ⟨_, _, rfl, rfl, rfl, nofun, rfl⟩) rfl
theorem ok287 : TIok Tryz.prog tiT.get 287 i287 := mk_ti (info_at Tryz.type287) rfl rfl Tryz.underlying287 (.inr ⟨_, _, rfl, rfl, rfl, nofun, rfl⟩) rfl
theorem ok288 : TIok Tryz.prog tiT.get 288 i288 := mk_ti (info_at Tryz.type288) rfl rfl Tryz.underlying288 (.inr ⟨_, _, rfl, rfl, rfl, nofun, rfl⟩) rfl
theorem ok289 : TIok Tryz.prog tiT.get 289 i289 := mk_ti (info_at Tryz.type289) rfl rfl Tryz.underlying289 (.inr ⟨_, _, rfl, rfl, rfl, nofun, rfl⟩) rfl
theorem ok290 : TIok Tryz.prog tiT.get 290 i290 := mk_ti (info_at Tryz.type290) rfl rfl Tryz.underlying290 (.inr ⟨_, _, rfl, rfl, rfl, nofun, rfl⟩) rfl
theorem ok291 : TIok Tryz.prog tiT.get 291 i291 := mk_ti (info_at Tryz.type291) rfl rfl Tryz.underlying291 (.inr ⟨_, _, rfl, rfl, rfl, nofun, rfl⟩) rfl
theorem ok292 : TIok Tryz.prog tiT.get 292 i292 := mk_ti (info_at Tryz.type292) rfl rfl Tryz.underlying292 (.inr ⟨_, _, rfl, rfl, rfl, nofun, rfl⟩) rfl
theorem ok293 : TIok Tryz.prog tiT.get 293 i293 := mk_ti (info_at Tryz.type293) rfl rfl Tryz.underlying293 (.inr ⟨_, _, rfl, rfl, rfl, nofun, rfl⟩) rfl
theorem ok294 : TIok Tryz.prog tiT.get 294 i294 := mk_ti (info_at Tryz.type294) rfl rfl Tryz.underlying294 (.inr ⟨_, _, rfl, rfl, rfl, nofun, rfl⟩) rfl
theorem ok295 : TIok Tryz.prog tiT.get 295 i295 := mk_ti (info_at Tryz.type295) rfl rfl Tryz.underlying295 (.inr ⟨_, _, rfl, rfl, rfl, nofun, rfl⟩) rfl
theorem ok296 : TIok Tryz.prog tiT.get 296 i296 := mk_ti (info_at Tryz.type296) rfl rfl Tryz.underlying296 (.inr ⟨_, _, rfl, rfl, rfl, nofun, rfl⟩) rfl
theorem ok297 : TIok Tryz.prog tiT.get 297 i297 := mk_ti (info_at Tryz.type297) rfl rfl Tryz.underlying297 (.inl rfl) rfl
theorem ok298 : TIok Tryz.prog tiT.get 298 i298 := mk_ti (info_at Tryz.type298) rfl rfl Tryz.underlying298 (.inr ⟨_, _, rfl, rfl, rfl, nofun, rfl⟩) rfl
theorem ok299 : TIok Tryz.prog tiT.get 299 i299 := mk_ti (info_at Tryz.type299) rfl rfl Tryz.underlying299 (.inr ⟨_, _, rfl, rfl, rfl, nofun, rfl⟩) rfl
theorem ok300 : TIok Tryz.prog tiT.get 300 i300 := mk_ti (info_at Tryz.type300) rfl rfl Tryz.underlying300 (.inr ⟨_, _, rfl, rfl, rfl, nofun, rfl⟩) rfl
theorem ok301 : TIok Tryz.prog tiT.get 301 i301 := mk_ti (info_at Tryz.type301) rfl rfl Tryz.underlying301 (.inl rfl) rfl
theorem ok302 : TIok Tryz.prog tiT.get 302 i302 := mk_ti (info_at Tryz.type302) rfl rfl Tryz.underlying302 (.inr ⟨_, _, rfl, rfl, rfl, nofun, rfl⟩) rfl
theorem ok303 : TIok Tryz.prog tiT.get 303 i303 := mk_ti (info_at Tryz.type303) rfl rfl Tryz.underlying303 (.inr ⟨_, _, rfl, rfl, rfl, nofun, rfl⟩) rfl
theorem ok304 : TIok Tryz.prog tiT.get 304 i304 := mk_ti (info_at Tryz.type304) rfl rfl Tryz.underlying304 (.inr ⟨_, _, rfl, rfl, rfl, nofun, rfl⟩) rfl
theorem ok305 : TIok Tryz.prog tiT.get 305 i305 := mk_ti (info_at Tryz.type305) rfl rfl Tryz.underlying305 (.inr ⟨_, _, rfl, rfl, rfl, nofun, rfl⟩) rfl
theorem ok306 : TIok Tryz.prog tiT.get 306 i306 := mk_ti (info_at Tryz.type306) rfl rfl Tryz.underlying306 (.inr ⟨_, _, rfl, rfl, rfl, nofun, rfl⟩) rfl
theorem ok307 : TIok Tryz.prog tiT.get 307 i307 := mk_ti (info_at Tryz.type307) rfl rfl Tryz.underlying307 (.inr ⟨_, _, rfl, rfl, rfl, nofun, rfl⟩) rfl
theorem ok308 : TIok Tryz.prog tiT.get 308 i308 := mk_ti (info_at Tryz.type308) rfl rfl Tryz.underlying308 (.inr ⟨_, _, rfl, rfl, rfl, nofun, rfl⟩) rfl
theorem ok309 : TIok Tryz.prog tiT.get 309 i309 := mk_ti (info_at Tryz.type309) rfl rfl Tryz.underlying309 (.inl rfl) rfl
theorem ok310 : TIok Tryz.prog tiT.get 310 i310 := mk_ti (info_at Tryz.type310) rfl rfl Tryz.underlying310 (.inr ⟨_, _, rfl, rfl, rfl, nofun, rfl⟩) rfl
theorem ok311 : TIok Tryz.prog tiT.get 311 i311 := mk_ti (info_at Tryz.type311) rfl rfl Tryz.underlying311 (.inr ⟨_, _, rfl, rfl, rfl, nofun, rfl⟩) rfl
theorem ok312 : TIok Tryz.prog tiT.get 312 i312 := mk_ti (info_at Tryz.type312) rfl rfl Tryz.underlying312 (.inr ⟨_, _, rfl, rfl, rfl, nofun, rfl⟩) rfl
theorem ok313 : TIok Tryz.prog tiT.get 313 i313 := mk_ti (info_at Tryz.type313) rfl rfl Tryz.underlying313 (.inr ⟨_, _, rfl, rfl, rfl, nofun, rfl⟩) rfl
theorem ok314 : TIok Tryz.prog tiT.get 314 i314 := mk_ti (info_at Tryz.type314) rfl rfl Tryz.underlying314 (.inr ⟨_, _, rfl, rfl, rfl, nofun, rfl⟩) rfl
theorem ok315 : TIok Tryz.prog tiT.get 315 i315 := mk_ti (info_at Tryz.type315) rfl rfl Tryz.underlying315 (.inr ⟨_, _, rfl, rfl, rfl, nofun, rfl⟩) rfl
theorem ok316 : TIok Tryz.prog tiT.get 316 i316 := mk_ti (info_at Tryz.type316) rfl rfl Tryz.underlying316 (.inr ⟨_, _, rfl, rfl, rfl, nofun, rfl⟩) rfl
theorem ok317 : TIok Tryz.prog tiT.get 317 i317 := mk_ti (info_at Tryz.type317) rfl rfl Tryz.underlying317 (.inr ⟨_, _, rfl, rfl, rfl, nofun, rfl⟩) rfl
theorem ok318 : TIok Tryz.prog tiT.get 318 i318 := mk_ti (info_at Tryz.type318) rfl rfl Tryz.underlying318 (.inl rfl) rfl
theorem ok319 : TIok Tryz.prog tiT.get 319 i319 := mk_ti (info_at Tryz.type319) rfl rfl Tryz.underlying319 (.inr ⟨_, _, rfl, rfl, rfl, nofun, rfl⟩) rfl
theorem ok320 : TIok Tryz.prog tiT.get 320 i320 := mk_ti (info_at Tryz.type320) rfl rfl Tryz.underlying320 (.inr ⟨_, _, rfl, rfl, rfl, nofun, rfl⟩) rfl
theorem ok321 : TIok Tryz.prog tiT.get 321 i321 := mk_ti (info_at Tryz.type321) rfl rfl Tryz.underlying321 (.inl rfl) rfl
theorem ok322 : TIok Tryz.prog tiT.get 322 i322 := mk_ti (info_at Tryz.type322) rfl rfl Tryz.underlying322 (.inr ⟨_, _, rfl, rfl, rfl, nofun, rfl⟩) rfl
theorem ok323 : TIok Tryz.prog tiT.get 323 i323 := mk_ti (info_at Tryz.type323) rfl rfl Tryz.underlying323 (.inl rfl) rfl
theorem ok324 : TIok Tryz.prog tiT.get 324 i324 := mk_ti (info_at Tryz.type324) rfl rfl Tryz.underlying324 (.inr ⟨_, _, rfl, rfl, rfl, nofun, rfl⟩) rfl
theorem ok325 : TIok Tryz.prog tiT.get 325 i325 := mk_ti (info_at Tryz.type325) rfl rfl Tryz.underlying325 (.inl rfl) rfl
theorem ok326 : TIok Tryz.prog tiT.get 326 i326 := mk_ti (info_at Tryz.type326) rfl rfl Tryz.underlying326 (.inr ⟨_, _, rfl, rfl, rfl, nofun, rfl⟩) rfl
theorem ok327 : TIok Tryz.prog tiT.get 327 i327 := mk_ti (info_at Tryz.type327) rfl rfl Tryz.underlying327 (.inr ⟨_, _, rfl, rfl, rfl, nofun, rfl⟩) rfl
theorem ok328 : TIok Tryz.prog tiT.get 328 i328 := mk_ti (info_at Tryz.type328) rfl rfl Tryz.underlying328 (.inr ⟨_, _, rfl, rfl, rfl, nofun, rfl⟩) rfl
theorem ok329 : TIok Tryz.prog tiT.get 329 i329 := mk_ti (info_at Tryz.type329) rfl rfl Tryz.underlying329 (.inl rfl) rfl
theorem ok330 : TIok Tryz.prog tiT.get 330 i330 := mk_ti (info_at Tryz.type330) rfl rfl Tryz.underlying330 (.inr ⟨_, _, rfl, rfl, rfl, nofun, rfl⟩) rfl
theorem ok331 : TIok Tryz.prog tiT.get 331 i331 := mk_ti (info_at Tryz.type331) rfl rfl Tryz.underlying331 (.inr ⟨_, _, rfl, rfl, rfl, nofun, rfl⟩) rfl
theorem ok332 : TIok Tryz.prog tiT.get 332 i332 := mk_ti (info_at Tryz.type332) rfl rfl Tryz.underlying332 (.inr ⟨_, _, rfl, rfl, rfl, nofun, rfl⟩) rfl
theorem ok333 : TIok Tryz.prog tiT.get 333 i333 := mk_ti (info_at Tryz.type333) rfl rfl Tryz.underlying333 (.inr ⟨_, _, rfl, rfl, rfl, nofun, rfl⟩) rfl
theorem ok334 : TIok Tryz.prog tiT.get 334 i334 := mk_ti (info_at Tryz.type334) rfl rfl Tryz.underlying334 (.inr ⟨_, _, rfl, rfl, rfl, nofun, rfl⟩) rfl
theorem ok335 : TIok Tryz.prog tiT.get 335 i335 := mk_ti (info_at Tryz.type335) rfl rfl Tryz.underlying335 (.inr ⟨_, _, rfl, rfl, rfl, nofun, rfl⟩) rfl
theorem ok336 : TIok Tryz.prog tiT.get 336 i336 := mk_ti (info_at Tryz.type336) rfl rfl Tryz.underlying336 (.inr ⟨_, _, rfl, rfl, rfl, nofun, rfl⟩) rfl
theorem ok337 : TIok Tryz.prog tiT.get 337 i337 := mk_ti (info_at Tryz.type337) rfl rfl Tryz.underlying337 (.inr ⟨_, _, rfl, rfl, rfl, nofun, rfl⟩) rfl
theorem ok338 : TIok Tryz.prog tiT.get 338 i338 := mk_ti (info_at Tryz.type338) rfl rfl Tryz.underlying338 (.inr ⟨_, _, rfl, rfl, rfl, nofun, rfl⟩) rfl
theorem ok339 : TIok Tryz.prog tiT.get 339 i339 := mk_ti (info_at Tryz.type339) rfl rfl Tryz.underlying339 (.inr ⟨_, _, rfl, rfl, rfl, nofun, rfl⟩) rfl
theorem ok340 : TIok Tryz.prog tiT.get 340 i340 := mk_ti (info_at Tryz.type340) rfl rfl Tryz.underlying340 (.inr ⟨_, _, rfl, rfl, rfl, nofun, rfl⟩) rfl
theorem ok341 : TIok Tryz.prog tiT.get 341 i341 := mk_ti (info_at Tryz.type341) rfl rfl Tryz.underlying341 (.inr ⟨_, _, rfl, rfl, rfl, nofun, rfl⟩) rfl
theorem ok342 : TIok Tryz.prog tiT.get 342 i342 := mk_ti (info_at Tryz.type342) rfl rfl Tryz.underlying342 (.inr ⟨_, _, rfl, rfl, rfl, nofun, rfl⟩) rfl
theorem ok343 : TIok Tryz.prog tiT.get 343 i343 := mk_ti (info_at Tryz.type343) rfl rfl Tryz.underlying343 (.inr ⟨_, _, rfl, rfl, rfl, nofun, rfl⟩) rfl
theorem ok344 : TIok Tryz.prog tiT.get 344 i344 := mk_ti (info_at Tryz.type344) rfl rfl Tryz.underlying344 (.inr ⟨_, _, rfl, rfl, rfl, nofun, rfl⟩) rfl
theorem ok345 : TIok Tryz.prog tiT.get 345 i345 := mk_ti (info_at Tryz.type345) rfl rfl Tryz.underlying345 (.inr ⟨_, _, rfl, rfl, rfl, nofun, rfl⟩) rfl
theorem ok346 : TIok Tryz.prog tiT.get 346 i346 := mk_ti (info_at Tryz.type346) rfl rfl Tryz.underlying346 (.inr ⟨_, _, rfl, rfl, rfl, nofun, rfl⟩) rfl
theorem ok347 : TIok Tryz.prog tiT.get 347 i347 := mk_ti (info_at Tryz.type347) rfl rfl Tryz.underlying347 (.inr ⟨_, _, rfl, rfl, rfl, nofun, rfl⟩) rfl
theorem ok348 : TIok Tryz.prog tiT.get 348 i348 := mk_ti (info_at Tryz.type348) rfl rfl Tryz.underlying348 (.inr ⟨_, _, rfl, rfl, rfl, nofun, rfl⟩) rfl
theorem ok349 : TIok Tryz.prog tiT.get 349 i349 := mk_ti (info_at Tryz.type349) rfl rfl Tryz.underlying349 (.inr ⟨_, _, rfl, rfl, rfl, nofun, rfl⟩) rfl
theorem ok350 : TIok Tryz.prog tiT.get 350 i350 := mk_ti (info_at Tryz.type350) rfl rfl Tryz.underlying350 (.inr ⟨_, _, rfl, rfl, rfl, nofun, rfl⟩) rfl
theorem ok351 : TIok Tryz.prog tiT.get 351 i351 := mk_ti (info_at Tryz.type351) rfl rfl Tryz.underlying351 (.inr ⟨_, _, rfl, rfl, rfl, nofun, rfl⟩) rfl
theorem ok352 : TIok Tryz.prog tiT.get 352 i352 := mk_ti (info_at Tryz.type352) rfl rfl Tryz.underlying352 (.inr ⟨_, _, rfl, rfl, rfl, nofun, rfl⟩) rfl
theorem ok353 : TIok Tryz.prog tiT.get 353 i353 := mk_ti (info_at Tryz.type353) rfl rfl Tryz.underlying353 (.inr ⟨_, _, rfl, rfl, rfl, nofun, rfl⟩) rfl
theorem ok354 : TIok Tryz.prog tiT.get 354 i354 := mk_ti (info_at Tryz.type354) rfl rfl Tryz.underlying354 (.inl rfl) rfl
theorem ok355 : TIok Tryz.prog tiT.get 355 i355 := mk_ti (info_at Tryz.type355) rfl rfl Tryz.underlying355 (.inr ⟨_, _, rfl, rfl, rfl, nofun, rfl⟩) rfl
theorem ok356 : TIok Tryz.prog tiT.get 356 i356 := mk_ti (info_at Tryz.type356) rfl rfl Tryz.underlying356 (.inr ⟨_, _, rfl, rfl, rfl, nofun, rfl⟩) rfl
theorem ok357 : TIok Tryz.prog tiT.get 357 i357 := mk_ti (info_at Tryz.type357) rfl rfl Tryz.underlying357 (.inr ⟨_, _, rfl, rfl, rfl, nofun, rfl⟩) rfl
theorem ok358 : TIok Tryz.prog tiT.get 358 i358 := mk_ti (info_at Tryz.type358) rfl rfl Tryz.underlying358 (.inr ⟨_, _, rfl, rfl, rfl, nofun, rfl⟩) rfl
theorem ok359 : TIok Tryz.prog tiT.get 359 i359 := mk_ti (info_at Tryz.type359) rfl rfl Tryz.underlying359 (.inr ⟨_, _, rfl, rfl, rfl, nofun, rfl⟩) rfl
theorem ok360 : TIok Tryz.prog tiT.get 360 i360 := mk_ti (info_at Tryz.type360) rfl rfl Tryz.underlying360 (.inr ⟨_, _, rfl, rfl, rfl, nofun, rfl⟩) rfl
theorem ok361 : TIok Tryz.prog tiT.get 361 i361 := mk_ti (info_at Tryz.type361) rfl rfl Tryz.underlying361 (.inr ⟨_, _, rfl, rfl, rfl, nofun, rfl⟩) rfl
theorem ok362 : TIok Tryz.prog tiT.get 362 i362 := mk_ti (info_at Tryz.type362) rfl rfl Tryz.underlying362 (.inr ⟨_, _, rfl, rfl, rfl, nofun, rfl⟩) rfl
theorem ok363 : TIok Tryz.prog tiT.get 363 i363 := mk_ti (info_at Tryz.type363) rfl rfl Tryz.underlying363 (.inl rfl) rfl
theorem ok364 : TIok Tryz.prog tiT.get 364 i364 := mk_ti (info_at Tryz.type364) rfl rfl Tryz.underlying364 (.inr ⟨_, _, rfl, rfl, rfl, nofun, rfl⟩) rfl
theorem ok365 : TIok Tryz.prog tiT.get 365 i365 := mk_ti (info_at Tryz.type365) rfl rfl Tryz.underlying365 (.inr ⟨_, _, rfl, rfl, rfl, nofun, rfl⟩) rfl
theorem ok366 : TIok Tryz.prog tiT.get 366 i366 := mk_ti (info_at Tryz.type366) rfl rfl Tryz.underlying366 (.inr ⟨_, _, rfl, rfl, rfl, nofun, rfl⟩) rfl
theorem ok367 : TIok Tryz.prog tiT.get 367 i367 := mk_ti (info_at Tryz.type367) rfl rfl Tryz.underlying367 (.inr ⟨_, _, rfl, rfl, rfl, nofun, rfl⟩) rfl
theorem ok368 : TIok Tryz.prog tiT.get 368 i368 := mk_ti (info_at Tryz.type368) rfl rfl Tryz.underlying368 (.inr ⟨_, _, rfl, rfl, rfl, nofun, rfl⟩) rfl
theorem ok369 : TIok Tryz.prog tiT.get 369 i369 := mk_ti (info_at Tryz.type369) rfl rfl Tryz.underlying369 (.inr ⟨_, _, rfl, rfl, rfl, nofun, rfl⟩) rfl
theorem ok370 : TIok Tryz.prog tiT.get 370 i370 := mk_ti (info_at Tryz.type370) rfl rfl Tryz.underlying370 (.inr ⟨_, _, rfl, rfl, rfl, nofun, rfl⟩) rfl
theorem ok371 : TIok Tryz.prog tiT.get 371 i371 := mk_ti (info_at Tryz.type371) rfl rfl Tryz.underlying371 (.inr ⟨_, _, rfl, rfl, rfl, nofun, rfl⟩) rfl
theorem ok372 : TIok Tryz.prog tiT.get 372 i372 := mk_ti (info_at Tryz.type372) rfl rfl Tryz.underlying372 (.inr ⟨_, _, rfl, rfl, rfl, nofun, rfl⟩) rfl
theorem ok373 : TIok Tryz.prog tiT.get 373 i373 := mk_ti (info_at Tryz.type373) rfl rfl Tryz.underlying373 (.inr ⟨_, _, rfl, rfl, rfl, nofun, rfl⟩) rfl
theorem ok374 : TIok Tryz.prog tiT.get 374 i374 := mk_ti (info_at Tryz.type374) rfl rfl Tryz.underlying374 (.inr ⟨_, _, rfl, rfl, rfl, nofun, rfl⟩) rfl
theorem ok375 : TIok Tryz.prog tiT.get 375 i375 := mk_ti (info_at Tryz.type375) rfl rfl Tryz.underlying375 (.inr ⟨_, _, rfl, rfl, rfl, nofun, rfl⟩) rfl
theorem ok376 : TIok Tryz.prog tiT.get 376 i376 := mk_ti (info_at Tryz.type376) rfl rfl Tryz.underlying376 (.inr ⟨_, _, rfl, rfl, rfl, nofun, rfl⟩) rfl
theorem ok377 : TIok Tryz.prog tiT.get 377 i377 := mk_ti (info_at Tryz.type377) rfl rfl Tryz.underlying377 (.inr ⟨_, _, rfl, rfl, rfl, nofun, rfl⟩) rfl
theorem ok378 : TIok Tryz.prog tiT.get 378 i378 := mk_ti (info_at Tryz.type378) rfl rfl Tryz.underlying378 (.inr ⟨_, _, rfl, rfl, rfl, nofun, rfl⟩) rfl
theorem ok379 : TIok Tryz.prog tiT.get 379 i379 := mk_ti (info_at Tryz.type379) rfl rfl Tryz.underlying379 (.inr ⟨_, _, rfl, rfl, rfl, nofun, rfl⟩) rfl
theorem ok380 : TIok Tryz.prog tiT.get 380 i380 := mk_ti (info_at Tryz.type380) rfl rfl Tryz.underlying380 (.inr ⟨_, _, rfl, rfl, rfl, nofun, rfl⟩) rfl
theorem ok381 : TIok Tryz.prog tiT.get 381 i381 := mk_ti (info_at Tryz.type381) rfl rfl Tryz.underlying381 (.inr ⟨_, _, rfl, rfl, rfl, nofun, rfl⟩) rfl
theorem ok382 : TIok Tryz.prog tiT.get 382 i382 := mk_ti (info_at Tryz.type382) rfl rfl Tryz.underlying382 (.inr ⟨_, _, rfl, rfl, rfl, nofun, rfl⟩) rfl
theorem ok383 : TIok Tryz.prog tiT.get 383 i383 := mk_ti (info_at Tryz.type383) rfl rfl Tryz.underlying383 (.inr ⟨_, _, rfl, rfl, rfl, nofun, rfl⟩) rfl
theorem ok384 : TIok Tryz.prog tiT.get 384 i384 := mk_ti (info_at Tryz.type384) rfl rfl Tryz.underlying384 (.inr ⟨_, _, rfl, rfl, rfl, nofun, rfl⟩) rfl
theorem ok385 : TIok Tryz.prog tiT.get 385 i385 := mk_ti (info_at Tryz.type385) rfl rfl Tryz.underlying385 (.inr ⟨_, _, rfl, rfl, rfl, nofun, rfl⟩) rfl
theorem ok386 : TIok Tryz.prog tiT.get 386 i386 := mk_ti (info_at Tryz.type386) rfl rfl Tryz.underlying386 (.inr ⟨_, _, rfl, rfl, rfl, nofun, rfl⟩) rfl
theorem ok387 : TIok Tryz.prog tiT.get 387 i387 := mk_ti (info_at Tryz.type387) rfl rfl Tryz.underlying387 (.inr ⟨_, _, rfl, rfl, rfl, nofun, rfl⟩) rfl
theorem ok388 : TIok Tryz.prog tiT.get 388 i388 := mk_ti (info_at Tryz.type388) rfl rfl Tryz.underlying388 (.inr ⟨_, _, rfl, rfl, rfl, nofun, rfl⟩) rfl
theorem ok389 : TIok Tryz.prog tiT.get 389 i389 := mk_ti (info_at Tryz.type389) rfl rfl Tryz.underlying389 (.inr ⟨_, _, rfl, rfl, rfl, nofun, rfl⟩) rfl
theorem ok390 : TIok Tryz.prog tiT.get 390 i390 := mk_ti (info_at Tryz.type390) rfl rfl Tryz.underlying390 (.inr ⟨_, _, rfl, rfl, rfl, nofun, rfl⟩) rfl
theorem ok391 : TIok Tryz.prog tiT.get 391 i391 := mk_ti (info_at Tryz.type391) rfl rfl Tryz.underlying391 (.inr ⟨_, _, rfl, rfl, rfl, nofun, rfl⟩) rfl
theorem ok392 : TIok Tryz.prog tiT.get 392 i392 := mk_ti (info_at Tryz.type392) rfl rfl Tryz.underlying392 (.inr ⟨_, _, rfl, rfl, rfl, nofun, rfl⟩) rfl
theorem ok393 : TIok Tryz.prog tiT.get 393 i393 := mk_ti (info_at Tryz.type393) rfl rfl Tryz.underlying393 (.inr ⟨_, _, rfl, rfl, rfl, nofun, rfl⟩) rfl
theorem ok394 : TIok Tryz.prog tiT.get 394 i394 := mk_ti (info_at Tryz.type394) rfl rfl Tryz.underlying394 (.inr ⟨_, _, rfl, rfl, rfl, nofun, rfl⟩) rfl
theorem ok395 : TIok Tryz.prog tiT.get 395 i395 := mk_ti (info_at Tryz.type395) rfl rfl Tryz.underlying395 (.inr ⟨_, _, rfl, rfl, rfl, nofun, rfl⟩) rfl
theorem ok396 : TIok Tryz.prog tiT.get 396 i396 := mk_ti (info_at Tryz.type396) rfl rfl Tryz.underlying396 (.inr ⟨_, _, rfl, rfl, rfl, nofun, rfl⟩) rfl
theorem ok397 : TIok Tryz.prog tiT.get 397 i397 := mk_ti (info_at Tryz.type397) rfl rfl Tryz.underlying397 (.inr ⟨_, _, rfl, rfl, rfl, nofun, rfl⟩) rfl
theorem ok398 : TIok Tryz.prog tiT.get 398 i398 := mk_ti (info_at Tryz.type398) rfl rfl Tryz.underlying398 (.inr ⟨_, _, rfl, rfl, rfl, nofun, rfl⟩) rfl
theorem ok399 : TIok Tryz.prog tiT.get 399 i399 := mk_ti (info_at Tryz.type399) rfl rfl Tryz.underlying399 (.inr ⟨_, _, rfl, rfl, rfl, nofun, rfl⟩) rfl
theorem ok400 : TIok Tryz.prog tiT.get 400 i400 := mk_ti (info_at Tryz.type400) rfl rfl Tryz.underlying400 (.inr ⟨_, _, rfl, rfl, rfl, nofun, rfl⟩) rfl
theorem ok401 : TIok Tryz.prog tiT.get 401 i401 := mk_ti (info_at Tryz.type401) rfl rfl Tryz.underlying401 (.inr ⟨_, _, rfl, rfl, rfl, nofun, rfl⟩) rfl
theorem ok402 : TIok Tryz.prog tiT.get 402 i402 := mk_ti (info_at Tryz.type402) rfl rfl Tryz.underlying402 (.inr ⟨_, _, rfl, rfl, rfl, nofun, rfl⟩) rfl
theorem ok403 : TIok Tryz.prog tiT.get 403 i403 := mk_ti (info_at Tryz.type403) rfl rfl Tryz.underlying403 (.inr ⟨_, _, rfl, rfl, rfl, nofun, rfl⟩) rfl
theorem ok404 : TIok Tryz.prog tiT.get 404 i404 := mk_ti (info_at Tryz.type404) rfl rfl Tryz.underlying404 (.inr ⟨_, _, rfl, rfl, rfl, nofun, rfl⟩) rfl
theorem ok405 : TIok Tryz.prog tiT.get 405 i405 := mk_ti (info_at Tryz.type405) rfl rfl Tryz.underlying405 (.inr ⟨_, _, rfl, rfl, rfl, nofun, rfl⟩) rfl
theorem tiOK : ∀ t i, tiT.get t = some i → TIok Tryz.prog tiT.get t i := fun t i h => Tr.all_get (Q := TIok Tryz.prog tiT.get) (f := fun k => k) (t := tiT) ⟨⟨⟨⟨⟨⟨⟨⟨⟨trivial, ok255, trivial⟩, ok127, ⟨trivial, ok383, trivial⟩⟩, ok63, ⟨⟨trivial, ok319, trivial⟩, ok191, trivial⟩⟩, ok31, ⟨⟨⟨trivial, ok287, trivial⟩, ok159, trivial⟩, ok95, ⟨⟨trivial, ok351, trivial⟩, ok223, trivial⟩⟩⟩, ok15, ⟨⟨⟨⟨trivial, ok271, trivial⟩, ok143, ⟨trivial, ok399, trivial⟩⟩, ok79, ⟨⟨trivial, ok335, trivial⟩, ok207, trivial⟩⟩, ok47, ⟨⟨⟨trivial, ok303, trivial⟩, ok175, trivial⟩, ok111, ⟨⟨trivial, ok367, trivial⟩, ok239, trivial⟩⟩⟩⟩, ok7, ⟨⟨⟨⟨⟨trivial, ok263, trivial⟩, ok135, ⟨trivial, ok391, trivial⟩⟩, ok71, ⟨⟨trivial, ok327, trivial⟩, ok199, trivial⟩⟩, ok39, ⟨⟨⟨trivial, ok295, trivial⟩, ok167, trivial⟩, ok103, ⟨⟨trivial, ok359, trivial⟩, ok231, trivial⟩⟩⟩, ok23, ⟨⟨⟨⟨trivial, ok279, trivial⟩, ok151, trivial⟩, ok87, ⟨⟨trivial, ok343, trivial⟩, ok215, trivial⟩⟩, ok55, ⟨⟨⟨trivial, ok311, trivial⟩, ok183, trivial⟩, ok119, ⟨⟨trivial, ok375, trivial⟩, ok247, trivial⟩⟩⟩⟩⟩, ok3, ⟨⟨⟨⟨⟨⟨trivial, ok259, trivial⟩, ok131, ⟨trivial, ok387, trivial⟩⟩, ok67, ⟨⟨trivial, ok323, trivial⟩, ok195, trivial⟩⟩, ok35, ⟨⟨⟨trivial, ok291, trivial⟩, ok163, trivial⟩, ok99, ⟨⟨trivial, ok355, trivial⟩, ok227, trivial⟩⟩⟩, ok19, ⟨⟨⟨⟨trivial, ok275, trivial⟩, ok147, ⟨trivial, ok403, trivial⟩⟩, ok83, ⟨⟨trivial, ok339, trivial⟩, ok211, trivial⟩⟩, ok51, ⟨⟨⟨trivial, ok307, trivial⟩, ok179, trivial⟩, ok115, ⟨⟨trivial, ok371, trivial⟩, ok243, trivial⟩⟩⟩⟩, ok11, ⟨⟨⟨⟨⟨trivial, ok267, trivial⟩, ok139, ⟨trivial, ok395, trivial⟩⟩, ok75, ⟨⟨trivial, ok331, trivial⟩, ok203, trivial⟩⟩, ok43, ⟨⟨⟨trivial, ok299, trivial⟩, ok171, trivial⟩, ok107, ⟨⟨trivial, ok363, trivial⟩, ok235, trivial⟩⟩⟩, ok27, ⟨⟨⟨⟨trivial, ok283, trivial⟩, ok155, trivial⟩, ok91, ⟨⟨trivial, ok347, trivial⟩, ok219, trivial⟩⟩, ok59, ⟨⟨⟨trivial, ok315, trivial⟩, ok187, trivial⟩, ok123, ⟨⟨trivial, ok379, trivial⟩, ok251, trivial⟩⟩⟩⟩⟩⟩, ok1, ⟨⟨⟨⟨⟨⟨⟨trivial, ok257, trivial⟩, ok129, ⟨trivial, ok385, trivial⟩⟩, ok65, ⟨⟨trivial, ok321, trivial⟩, ok193, trivial⟩⟩, ok33, ⟨⟨⟨trivial, ok289, trivial⟩, ok161, trivial⟩, ok97, ⟨⟨trivial, ok353, trivial⟩, ok225, trivial⟩⟩⟩, ok17, ⟨⟨⟨⟨trivial, ok273, trivial⟩, ok145, ⟨trivial, ok401, trivial⟩⟩, ok81, ⟨⟨trivial, ok337, trivial⟩, ok209, trivial⟩⟩, ok49, ⟨⟨⟨trivial, ok305, trivial⟩, ok177, trivial⟩, ok113, ⟨⟨trivial, ok369, trivial⟩, ok241, trivial⟩⟩⟩⟩, ok9, ⟨⟨⟨⟨⟨trivial, ok265, trivial⟩, ok137, ⟨trivial, ok393, trivial⟩⟩, ok73, ⟨⟨trivial, ok329, trivial⟩, ok201, trivial⟩⟩, ok41, ⟨⟨⟨trivial, ok297, trivial⟩, ok169, trivial⟩, ok105, ⟨⟨trivial, ok361, trivial⟩, ok233, trivial⟩⟩⟩, ok25, ⟨⟨⟨⟨trivial, ok281, trivial⟩, ok153, trivial⟩, ok89, ⟨⟨trivial, ok345, trivial⟩, ok217, trivial⟩⟩, ok57, ⟨⟨⟨trivial, ok313, trivial⟩, ok185, trivial⟩, ok121, ⟨⟨trivial, ok377, trivial⟩, ok249, trivial⟩⟩⟩⟩⟩, ok5, ⟨⟨⟨⟨⟨⟨trivial, ok261, trivial⟩, ok133, ⟨trivial, ok389, trivial⟩⟩, ok69, ⟨⟨trivial, ok325, trivial⟩, ok197, trivial⟩⟩, ok37, ⟨⟨⟨trivial, ok293, trivial⟩, ok165, trivial⟩, ok101, ⟨⟨trivial, ok357, trivial⟩, ok229, trivial⟩⟩⟩, ok21, ⟨⟨⟨⟨trivial, ok277, trivial⟩, ok149, ⟨trivial, ok405, trivial⟩⟩, ok85, ⟨⟨trivial, ok341, trivial⟩, ok213, trivial⟩⟩, ok53, ⟨⟨⟨trivial, ok309, trivial⟩, ok181, trivial⟩, ok117, ⟨⟨trivial, ok373, trivial⟩, ok245, trivial⟩⟩⟩⟩, ok13, ⟨⟨⟨⟨⟨trivial, ok269, trivial⟩, ok141, ⟨trivial, ok397, trivial⟩⟩, ok77, ⟨⟨trivial, ok333, trivial⟩, ok205, trivial⟩⟩, ok45, ⟨⟨⟨trivial, ok301, trivial⟩, ok173, trivial⟩, ok109, ⟨⟨trivial, ok365, trivial⟩, ok237, trivial⟩⟩⟩, ok29, ⟨⟨⟨⟨trivial, ok285, trivial⟩, ok157, trivial⟩, ok93, ⟨⟨trivial, ok349, trivial⟩, ok221, trivial⟩⟩, ok61, ⟨⟨⟨trivial, ok317, trivial⟩, ok189, trivial⟩, ok125, ⟨⟨trivial, ok381, trivial⟩, ok253, trivial⟩⟩⟩⟩⟩⟩⟩, ok0, ⟨⟨⟨⟨⟨⟨⟨⟨trivial, ok256, trivial⟩, ok128, ⟨trivial, ok384, trivial⟩⟩, ok64, ⟨⟨trivial, ok320, trivial⟩, ok192, trivial⟩⟩, ok32, ⟨⟨⟨trivial, ok288, trivial⟩, ok160, trivial⟩, ok96, ⟨⟨trivial, ok352, trivial⟩, ok224, trivial⟩⟩⟩, ok16, ⟨⟨⟨⟨trivial, ok272, trivial⟩, ok144, ⟨trivial, ok400, trivial⟩⟩, ok80, ⟨⟨trivial, ok336, trivial⟩, ok208, trivial⟩⟩, ok48, ⟨⟨⟨trivial, ok304, trivial⟩, ok176, trivial⟩, ok112, ⟨⟨trivial, ok368, trivial⟩, ok240, trivial⟩⟩⟩⟩, ok8, ⟨⟨⟨⟨⟨trivial, ok264, trivial⟩, ok136, ⟨trivial, ok392, trivial⟩⟩, ok72, ⟨⟨trivial, ok328, trivial⟩, ok200, trivial⟩⟩, ok40, ⟨⟨⟨trivial, ok296, trivial⟩, ok168, trivial⟩, ok104, ⟨⟨trivial, ok360, trivial⟩, ok232, trivial⟩⟩⟩, ok24, ⟨⟨⟨⟨trivial, ok280, trivial⟩, ok152, trivial⟩, ok88, ⟨⟨trivial, ok344, trivial⟩, ok216, trivial⟩⟩, ok56, ⟨⟨⟨trivial, ok312, trivial⟩, ok184, trivial⟩, ok120, ⟨⟨trivial, ok376, trivial⟩, ok248, trivial⟩⟩⟩⟩⟩, ok4, ⟨⟨⟨⟨⟨⟨trivial, ok260, trivial⟩, ok132, ⟨trivial, ok388, trivial⟩⟩, ok68, ⟨⟨trivial, ok324, trivial⟩, ok196, trivial⟩⟩, ok36, ⟨⟨⟨trivial, ok292, trivial⟩, ok164, trivial⟩, ok100, ⟨⟨trivial, ok356, trivial⟩, ok228, trivial⟩⟩⟩, ok20, ⟨⟨⟨⟨trivial, ok276, trivial⟩, ok148, ⟨trivial, ok404, trivial⟩⟩, ok84, ⟨⟨trivial, ok340, trivial⟩, ok212, trivial⟩⟩, ok52, ⟨⟨⟨trivial, ok308, trivial⟩, ok180, trivial⟩, ok116, ⟨⟨trivial, ok372, trivial⟩, ok244, trivial⟩⟩⟩⟩, ok12, ⟨⟨⟨⟨⟨trivial, ok268, trivial⟩, ok140, ⟨trivial, ok396, trivial⟩⟩, ok76, ⟨⟨trivial, ok332, trivial⟩, ok204, trivial⟩⟩, ok44, ⟨⟨⟨trivial, ok300, trivial⟩, ok172, trivial⟩, ok108, ⟨⟨trivial, ok364, trivial⟩, ok236, trivial⟩⟩⟩, ok28, ⟨⟨⟨⟨trivial, ok284, trivial⟩, ok156, trivial⟩, ok92, ⟨⟨trivial, ok348, trivial⟩, ok220, trivial⟩⟩, ok60, ⟨⟨⟨trivial, ok316, trivial⟩, ok188, trivial⟩, ok124, ⟨⟨trivial, ok380, trivial⟩, ok252, trivial⟩⟩⟩⟩⟩⟩, ok2, ⟨⟨⟨⟨⟨⟨⟨trivial, ok258, trivial⟩, ok130, ⟨trivial, ok386, trivial⟩⟩, ok66, ⟨⟨trivial, ok322, trivial⟩, ok194, trivial⟩⟩, ok34, ⟨⟨⟨trivial, ok290, trivial⟩, ok162, trivial⟩, ok98, ⟨⟨trivial, ok354, trivial⟩, ok226, trivial⟩⟩⟩, ok18, ⟨⟨⟨⟨trivial, ok274, trivial⟩, ok146, ⟨trivial, ok402, trivial⟩⟩, ok82, ⟨⟨trivial, ok338, trivial⟩, ok210, trivial⟩⟩, ok50, ⟨⟨⟨trivial, ok306, trivial⟩, ok178, trivial⟩, ok114, ⟨⟨trivial, ok370, trivial⟩, ok242, trivial⟩⟩⟩⟩, ok10, ⟨⟨⟨⟨⟨trivial, ok266, trivial⟩, ok138, ⟨trivial, ok394, trivial⟩⟩, ok74, ⟨⟨trivial, ok330, trivial⟩, ok202, trivial⟩⟩, ok42, ⟨⟨⟨trivial, ok298, trivial⟩, ok170, trivial⟩, ok106, ⟨⟨trivial, ok362, trivial⟩, ok234, trivial⟩⟩⟩, ok26, ⟨⟨⟨⟨trivial, ok282, trivial⟩, ok154, trivial⟩, ok90, ⟨⟨trivial, ok346, trivial⟩, ok218, trivial⟩⟩, ok58, ⟨⟨⟨trivial, ok314, trivial⟩, ok186, trivial⟩, ok122, ⟨⟨trivial, ok378, trivial⟩, ok250, trivial⟩⟩⟩⟩⟩, ok6, ⟨⟨⟨⟨⟨⟨trivial, ok262, trivial⟩, ok134, ⟨trivial, ok390, trivial⟩⟩, ok70, ⟨⟨trivial, ok326, trivial⟩, ok198, trivial⟩⟩, ok38, ⟨⟨⟨trivial, ok294, trivial⟩, ok166, trivial⟩, ok102, ⟨⟨trivial, ok358, trivial⟩, ok230, trivial⟩⟩⟩, ok22, ⟨⟨⟨⟨trivial, ok278, trivial⟩, ok150, trivial⟩, ok86, ⟨⟨trivial, ok342, trivial⟩, ok214, trivial⟩⟩, ok54, ⟨⟨⟨trivial, ok310, trivial⟩, ok182, trivial⟩, ok118, ⟨⟨trivial, ok374, trivial⟩, ok246, trivial⟩⟩⟩⟩, ok14, ⟨⟨⟨⟨⟨trivial, ok270, trivial⟩, ok142, ⟨trivial, ok398, trivial⟩⟩, ok78, ⟨⟨trivial, ok334, trivial⟩, ok206, trivial⟩⟩, ok46, ⟨⟨⟨trivial, ok302, trivial⟩, ok174, trivial⟩, ok110, ⟨⟨trivial, ok366, trivial⟩, ok238, trivial⟩⟩⟩, ok30, ⟨⟨⟨⟨trivial, ok286, trivial⟩, ok158, trivial⟩, ok94, ⟨⟨trivial, ok350, trivial⟩, ok222, trivial⟩⟩, ok62, ⟨⟨⟨trivial, ok318, trivial⟩, ok190, trivial⟩, ok126, ⟨⟨trivial, ok382, trivial⟩, ok254, trivial⟩⟩⟩⟩⟩⟩⟩⟩ t i h
end Go.Ideal.Tz
