/-
  Events, metrics, tags and numbers of EventTells's printed kinds, as an argument's reading gives them.
-/
import Derived.Test.YtigchloekolaoaaOpens
import Derived.Test.YtigchloekolaoaaPEventTellsx0
import Derived.KernelRfl
namespace Go.Proofs.Ytigchloekolaoaa.PEventTells
open Go.RowKit Go.Proofs.YtigchloekolaoaaW.PrintWords
open Go.ChangeShapes Go.WideShapes Go.Deep

theorem opens41 : Opens Try.prog k41 41 :=
  opens_struct Try.underlying41 (by kernel_rfl) (by kernel_rfl) (fun a => ⟨⟨a.1, a.2⟩, rfl⟩) (opensF_cons (opens_string Try.underlying9) (opensF_one (opens_string Try.underlying9)))
theorem opens39 : Opens Try.prog k39 39 :=
  opens_struct Try.underlying39 (by kernel_rfl) (by kernel_rfl) (fun a => ⟨⟨a.1, a.2.1, a.2.2⟩, rfl⟩) (opensF_cons (opens_bool Try.underlying4) (opensF_cons (opens_int Try.underlying37) (opensF_one (opens_int Try.underlying3))))
theorem cells41 : k41.sz = Try.prog.cellsOf 41 := by
  have : Try.prog.cellsOf 41 = 2 := by kernel_rfl
  rw [this]; rfl
theorem cells39 : k39.sz = Try.prog.cellsOf 39 := by
  have : Try.prog.cellsOf 39 = 3 := by kernel_rfl
  rw [this]; rfl
theorem opens33 : Opens Try.prog (Kd.slice 39 k39) 33 := opens_slice Try.underlying33 cells39 opens39
theorem opens34 : Opens Try.prog (Kd.slice 41 k41) 34 := opens_slice Try.underlying34 cells41 opens41
theorem opens36 : Opens Try.prog k36 36 :=
  opens_struct Try.underlying36 (by kernel_rfl) (by kernel_rfl) (fun a => ⟨⟨a.1, a.2.1, a.2.2.1, a.2.2.2.1, a.2.2.2.2.1, a.2.2.2.2.2⟩, rfl⟩)
    (opensF_cons (opens_string Try.underlying9) (opensF_cons (opens_int Try.underlying3) (opensF_cons opens33 (opensF_cons (opens_int Try.underlying3) (opensF_cons opens34 (opensF_one (opens_int Try.underlying3)))))))
theorem cells36 : k36.sz = Try.prog.cellsOf 36 := by
  have : Try.prog.cellsOf 36 = 6 := by kernel_rfl
  rw [this]; rfl
theorem opens30 : Opens Try.prog (Kd.slice 36 k36) 30 := opens_slice Try.underlying30 cells36 opens36
theorem opens46 : Opens Try.prog k46 46 :=
  opens_struct Try.underlying46 (by kernel_rfl) (by kernel_rfl) (fun a => ⟨⟨a.1, a.2.1, a.2.2.1, a.2.2.2.1, a.2.2.2.2.1, a.2.2.2.2.2⟩, rfl⟩)
    (opensF_cons (opens_int Try.underlying3) (opensF_cons (opens_int Try.underlying3) (opensF_cons (opens_int Try.underlying3) (opensF_cons opens30 (opensF_cons (opens_int Try.underlying44) (opensF_one (opens_int Try.underlying3)))))))
theorem cells46 : k46.sz = Try.prog.cellsOf 46 := by
  have : Try.prog.cellsOf 46 = 6 := by kernel_rfl
  rw [this]; rfl
theorem opens22 : Opens Try.prog (Kd.slice 46 k46) 22 := opens_slice Try.underlying22 cells46 opens46

/-- Counts: seven whole numbers. -/
def k24 : Kd (Int × Int × Int × Int × Int × Int × Int) :=
  Kd.iso (Kd.pair (Kd.int .i64) (Kd.pair (Kd.int .i64) (Kd.pair (Kd.int .i64) (Kd.pair (Kd.int .i64) (Kd.pair (Kd.int .i64) (Kd.pair (Kd.int .i64) (Kd.int .i64))))))) (fun x => x)
theorem opens24 : Opens Try.prog k24 24 :=
  opens_struct Try.underlying24 (by kernel_rfl) (by kernel_rfl) (fun a => ⟨a, rfl⟩)
    (opensF_cons (opens_int Try.underlying3) (opensF_cons (opens_int Try.underlying3) (opensF_cons (opens_int Try.underlying3) (opensF_cons (opens_int Try.underlying3) (opensF_cons (opens_int Try.underlying3) (opensF_cons (opens_int Try.underlying3) (opensF_one (opens_int Try.underlying3))))))))
theorem agg24 {w : World} {x : Int × Int × Int × Int × Int × Int × Int} {cs : Array Value} (h : k24.K w x (Value.agg cs).cells.toList) :
    cs = #[.int .i64 x.1, .int .i64 x.2.1, .int .i64 x.2.2.1, .int .i64 x.2.2.2.1, .int .i64 x.2.2.2.2.1, .int .i64 x.2.2.2.2.2.1, .int .i64 x.2.2.2.2.2.2] := by
  obtain ⟨_, _, e, rfl, ⟨_, _, rfl, rfl, ⟨_, _, rfl, rfl, ⟨_, _, rfl, rfl, ⟨_, _, rfl, rfl, ⟨_, _, rfl, rfl, rfl⟩⟩⟩⟩⟩⟩ := h
  have e' : cs.toList = [.int .i64 x.1, .int .i64 x.2.1, .int .i64 x.2.2.1, .int .i64 x.2.2.2.1, .int .i64 x.2.2.2.2.1, .int .i64 x.2.2.2.2.2.1, .int .i64 x.2.2.2.2.2.2] := e
  exact Array.toList_inj.1 e'
end Go.Proofs.Ytigchloekolaoaa.PEventTells
