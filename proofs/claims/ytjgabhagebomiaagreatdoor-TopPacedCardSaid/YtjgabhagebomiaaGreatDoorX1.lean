/- A part of the proof: TwX1. -/
import Derived.Test.YtjgabhagebomiaaGreatDoorN
import Derived.Test.YtjgabhagebomiaaGreatDoorProg
import Derived.KernelRfl
namespace Go.AH
open Go Go.Proofs

theorem follows_mixed : Tryz.prog.follows .mixedOrders = true := by kernel_rfl
theorem noGor_prog : noGor Tryz.prog = true := by kernel_rfl
theorem ext563 : ExtOk Tryz.prog 305 Extern.BytealgIndexByte.indexByte := .of Tryz.func305 (by kernel_rfl) (by kernel_rfl) (by kernel_rfl) (by kernel_rfl)
theorem ext668 : ExtOk Tryz.prog 381 (Extern.Atomic.loadT (.int .u32)) := .of Tryz.func381 (by kernel_rfl) (by kernel_rfl) (by kernel_rfl) (by kernel_rfl)
theorem ext703 : ExtOk Tryz.prog 391 Extern.Atomic.storeT := .of Tryz.func391 (by kernel_rfl) (by kernel_rfl) (by kernel_rfl) (by kernel_rfl)
theorem ext719 : ExtOk Tryz.prog 396 (Extern.Atomic.casT (.int .i32)) := .of Tryz.func396 (by kernel_rfl) (by kernel_rfl) (by kernel_rfl) (by kernel_rfl)
theorem ext724 : ExtOk Tryz.prog 401 (Extern.Atomic.update (Op.intArith .add) .i32 true) := .of Tryz.func401 (by kernel_rfl) (by kernel_rfl) (by kernel_rfl) (by kernel_rfl)
theorem ext487 : ExtOk Tryz.prog 307 Extern.AbiNoEscape.same := .of Tryz.func307 (by kernel_rfl) (by kernel_rfl) (by kernel_rfl) (by kernel_rfl)
theorem ext718 : ExtOk Tryz.prog 395 (fun _ => do Go.mark .disable; pure Extern.Race.none_) := .of Tryz.func395 (by kernel_rfl) (by kernel_rfl) (by kernel_rfl) (by kernel_rfl)
theorem ext720 : ExtOk Tryz.prog 397 (fun _ => do Go.mark .enable; pure Extern.Race.none_) := .of Tryz.func397 (by kernel_rfl) (by kernel_rfl) (by kernel_rfl) (by kernel_rfl)
theorem ext721 : ExtOk Tryz.prog 398 (Extern.Race.marked .acquire) := .of Tryz.func398 (by kernel_rfl) (by kernel_rfl) (by kernel_rfl) (by kernel_rfl)
theorem ext723 : ExtOk Tryz.prog 400 (Extern.Race.marked .releaseMerge) := .of Tryz.func400 (by kernel_rfl) (by kernel_rfl) (by kernel_rfl) (by kernel_rfl)
end Go.AH

