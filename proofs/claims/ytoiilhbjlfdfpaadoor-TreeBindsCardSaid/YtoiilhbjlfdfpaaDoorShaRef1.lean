/- right and constants, of the reference that sums. No statement of the seat is proved here. -/
import Derived.Test.YtoiilhbjlfdfpaaDoorShaProc
namespace Go.Proofs.YtoiilhbjlfdfpaaDoor
set_option linter.unusedVariables false
open Go.RowKit

abbrev RightPost (y : UInt32) (w : World) (e : Ending) (w' : World) : Prop := e = .returned (.int .u32 (nv y)) ∧ ∃ m, w' = w.drewN m

theorem right_7 (x : UInt32) (w : World) : Calls Tryd.prog 73 #[.int .u32 (nv x), .int .i64 7] w (RightPost (Sha.rotr x 7) w) := by
  have h0 := nv_lo x
  have h1 := nv_hi x
  have hb : (nv x / 128 + nv x * 33554432 % 4294967296) % 4294967296 = nv (Sha.rotr x 7) := by
    rw [nv_shl x 25 (by decide) 33554432 (by decide), nv_shr x 7 (by decide) 128 (by decide), nv_add]
    exact congrArg nv (rot_bits x _ 7 (by decide) (by decide) rfl)
  have hb2 : nv x / 128 + nv x * 33554432 % 4294967296 = nv (Sha.rotr x 7) := by omega
  have HB := Lib.hid hb2
  clear hb hb2
  go_enter Tryd.func73, Tryd.ntmps73
  go_wp2_with fail
  go_quiet (fail)
  go_wp2
  go_ret
  exact ⟨congrArg (fun v => Ending.returned (Value.int .u32 v)) HB.out, _, rfl⟩

theorem right_18 (x : UInt32) (w : World) : Calls Tryd.prog 73 #[.int .u32 (nv x), .int .i64 18] w (RightPost (Sha.rotr x 18) w) := by
  have h0 := nv_lo x
  have h1 := nv_hi x
  have hb : (nv x / 262144 + nv x * 16384 % 4294967296) % 4294967296 = nv (Sha.rotr x 18) := by
    rw [nv_shl x 14 (by decide) 16384 (by decide), nv_shr x 18 (by decide) 262144 (by decide), nv_add]
    exact congrArg nv (rot_bits x _ 18 (by decide) (by decide) rfl)
  have hb2 : nv x / 262144 + nv x * 16384 % 4294967296 = nv (Sha.rotr x 18) := by omega
  have HB := Lib.hid hb2
  clear hb hb2
  go_enter Tryd.func73, Tryd.ntmps73
  go_wp2_with fail
  go_quiet (fail)
  go_wp2
  go_ret
  exact ⟨congrArg (fun v => Ending.returned (Value.int .u32 v)) HB.out, _, rfl⟩

theorem right_17 (x : UInt32) (w : World) : Calls Tryd.prog 73 #[.int .u32 (nv x), .int .i64 17] w (RightPost (Sha.rotr x 17) w) := by
  have h0 := nv_lo x
  have h1 := nv_hi x
  have hb : (nv x / 131072 + nv x * 32768 % 4294967296) % 4294967296 = nv (Sha.rotr x 17) := by
    rw [nv_shl x 15 (by decide) 32768 (by decide), nv_shr x 17 (by decide) 131072 (by decide), nv_add]
    exact congrArg nv (rot_bits x _ 17 (by decide) (by decide) rfl)
  have hb2 : nv x / 131072 + nv x * 32768 % 4294967296 = nv (Sha.rotr x 17) := by omega
  have HB := Lib.hid hb2
  clear hb hb2
  go_enter Tryd.func73, Tryd.ntmps73
  go_wp2_with fail
  go_quiet (fail)
  go_wp2
  go_ret
  exact ⟨congrArg (fun v => Ending.returned (Value.int .u32 v)) HB.out, _, rfl⟩

theorem right_19 (x : UInt32) (w : World) : Calls Tryd.prog 73 #[.int .u32 (nv x), .int .i64 19] w (RightPost (Sha.rotr x 19) w) := by
  have h0 := nv_lo x
  have h1 := nv_hi x
  have hb : (nv x / 524288 + nv x * 8192 % 4294967296) % 4294967296 = nv (Sha.rotr x 19) := by
    rw [nv_shl x 13 (by decide) 8192 (by decide), nv_shr x 19 (by decide) 524288 (by decide), nv_add]
    exact congrArg nv (rot_bits x _ 19 (by decide) (by decide) rfl)
  have hb2 : nv x / 524288 + nv x * 8192 % 4294967296 = nv (Sha.rotr x 19) := by omega
  have HB := Lib.hid hb2
  clear hb hb2
  go_enter Tryd.func73, Tryd.ntmps73
  go_wp2_with fail
  go_quiet (fail)
  go_wp2
  go_ret
  exact ⟨congrArg (fun v => Ending.returned (Value.int .u32 v)) HB.out, _, rfl⟩

theorem right_6 (x : UInt32) (w : World) : Calls Tryd.prog 73 #[.int .u32 (nv x), .int .i64 6] w (RightPost (Sha.rotr x 6) w) := by
  have h0 := nv_lo x
  have h1 := nv_hi x
  have hb : (nv x / 64 + nv x * 67108864 % 4294967296) % 4294967296 = nv (Sha.rotr x 6) := by
    rw [nv_shl x 26 (by decide) 67108864 (by decide), nv_shr x 6 (by decide) 64 (by decide), nv_add]
    exact congrArg nv (rot_bits x _ 6 (by decide) (by decide) rfl)
  have hb2 : nv x / 64 + nv x * 67108864 % 4294967296 = nv (Sha.rotr x 6) := by omega
  have HB := Lib.hid hb2
  clear hb hb2
  go_enter Tryd.func73, Tryd.ntmps73
  go_wp2_with fail
  go_quiet (fail)
  go_wp2
  go_ret
  exact ⟨congrArg (fun v => Ending.returned (Value.int .u32 v)) HB.out, _, rfl⟩

theorem right_11 (x : UInt32) (w : World) : Calls Tryd.prog 73 #[.int .u32 (nv x), .int .i64 11] w (RightPost (Sha.rotr x 11) w) := by
  have h0 := nv_lo x
  have h1 := nv_hi x
  have hb : (nv x / 2048 + nv x * 2097152 % 4294967296) % 4294967296 = nv (Sha.rotr x 11) := by
    rw [nv_shl x 21 (by decide) 2097152 (by decide), nv_shr x 11 (by decide) 2048 (by decide), nv_add]
    exact congrArg nv (rot_bits x _ 11 (by decide) (by decide) rfl)
  have hb2 : nv x / 2048 + nv x * 2097152 % 4294967296 = nv (Sha.rotr x 11) := by omega
  have HB := Lib.hid hb2
  clear hb hb2
  go_enter Tryd.func73, Tryd.ntmps73
  go_wp2_with fail
  go_quiet (fail)
  go_wp2
  go_ret
  exact ⟨congrArg (fun v => Ending.returned (Value.int .u32 v)) HB.out, _, rfl⟩

theorem right_25 (x : UInt32) (w : World) : Calls Tryd.prog 73 #[.int .u32 (nv x), .int .i64 25] w (RightPost (Sha.rotr x 25) w) := by
  have h0 := nv_lo x
  have h1 := nv_hi x
  have hb : (nv x / 33554432 + nv x * 128 % 4294967296) % 4294967296 = nv (Sha.rotr x 25) := by
    rw [nv_shl x 7 (by decide) 128 (by decide), nv_shr x 25 (by decide) 33554432 (by decide), nv_add]
    exact congrArg nv (rot_bits x _ 25 (by decide) (by decide) rfl)
  have hb2 : nv x / 33554432 + nv x * 128 % 4294967296 = nv (Sha.rotr x 25) := by omega
  have HB := Lib.hid hb2
  clear hb hb2
  go_enter Tryd.func73, Tryd.ntmps73
  go_wp2_with fail
  go_quiet (fail)
  go_wp2
  go_ret
  exact ⟨congrArg (fun v => Ending.returned (Value.int .u32 v)) HB.out, _, rfl⟩

theorem right_2 (x : UInt32) (w : World) : Calls Tryd.prog 73 #[.int .u32 (nv x), .int .i64 2] w (RightPost (Sha.rotr x 2) w) := by
  have h0 := nv_lo x
  have h1 := nv_hi x
  have hb : (nv x / 4 + nv x * 1073741824 % 4294967296) % 4294967296 = nv (Sha.rotr x 2) := by
    rw [nv_shl x 30 (by decide) 1073741824 (by decide), nv_shr x 2 (by decide) 4 (by decide), nv_add]
    exact congrArg nv (rot_bits x _ 2 (by decide) (by decide) rfl)
  have hb2 : nv x / 4 + nv x * 1073741824 % 4294967296 = nv (Sha.rotr x 2) := by omega
  have HB := Lib.hid hb2
  clear hb hb2
  go_enter Tryd.func73, Tryd.ntmps73
  go_wp2_with fail
  go_quiet (fail)
  go_wp2
  go_ret
  exact ⟨congrArg (fun v => Ending.returned (Value.int .u32 v)) HB.out, _, rfl⟩

theorem right_13 (x : UInt32) (w : World) : Calls Tryd.prog 73 #[.int .u32 (nv x), .int .i64 13] w (RightPost (Sha.rotr x 13) w) := by
  have h0 := nv_lo x
  have h1 := nv_hi x
  have hb : (nv x / 8192 + nv x * 524288 % 4294967296) % 4294967296 = nv (Sha.rotr x 13) := by
    rw [nv_shl x 19 (by decide) 524288 (by decide), nv_shr x 13 (by decide) 8192 (by decide), nv_add]
    exact congrArg nv (rot_bits x _ 13 (by decide) (by decide) rfl)
  have hb2 : nv x / 8192 + nv x * 524288 % 4294967296 = nv (Sha.rotr x 13) := by omega
  have HB := Lib.hid hb2
  clear hb hb2
  go_enter Tryd.func73, Tryd.ntmps73
  go_wp2_with fail
  go_quiet (fail)
  go_wp2
  go_ret
  exact ⟨congrArg (fun v => Ending.returned (Value.int .u32 v)) HB.out, _, rfl⟩

theorem right_22 (x : UInt32) (w : World) : Calls Tryd.prog 73 #[.int .u32 (nv x), .int .i64 22] w (RightPost (Sha.rotr x 22) w) := by
  have h0 := nv_lo x
  have h1 := nv_hi x
  have hb : (nv x / 4194304 + nv x * 1024 % 4294967296) % 4294967296 = nv (Sha.rotr x 22) := by
    rw [nv_shl x 10 (by decide) 1024 (by decide), nv_shr x 22 (by decide) 4194304 (by decide), nv_add]
    exact congrArg nv (rot_bits x _ 22 (by decide) (by decide) rfl)
  have hb2 : nv x / 4194304 + nv x * 1024 % 4294967296 = nv (Sha.rotr x 22) := by omega
  have HB := Lib.hid hb2
  clear hb hb2
  go_enter Tryd.func73, Tryd.ntmps73
  go_wp2_with fail
  go_quiet (fail)
  go_wp2
  go_ret
  exact ⟨congrArg (fun v => Ending.returned (Value.int .u32 v)) HB.out, _, rfl⟩
end Go.Proofs.YtoiilhbjlfdfpaaDoor
