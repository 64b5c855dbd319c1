/- How blocks come in as arguments; each states its conditions. -/
import Derived.Test.YtkiamiphmndmcaaDoorKdRead
import Derived.Test.YtkiamiphmndmcaaDoorPCodesx
namespace Go.Proofs.YtkiamiphmndmcaaDoor.Lib2
open Go Go.RowKit Go.Proofs.YtkiamiphmndmcaaDoorW.PrintWords Go.Proofs.YtkiamiphmndmcaaDoor.PCodes
instance : Inhabited (S38) := ⟨z38⟩
instance : Inhabited (S31) := ⟨z31⟩
def insWf (x : S38) : Prop := (Lit.int .u8 x.f0).wf = true ∧ (Lit.int .i64 x.f1).wf = true ∧ (Lit.int .i64 x.f2).wf = true ∧ (Lit.int .u64 x.f3).wf = true
def blockWf (x : S31) : Prop := (Lit.int .i64 x.f0).wf = true ∧ x.f1.length ≤ maxLen ∧ ∀ i ∈ x.f1, insWf i
theorem rd_ins : Rd Tryd.prog k38 38 insWf := Rd.struct (P := Tryd.prog) (t := 38) (ts := [5, 3, 3, 36]) (by kernel_rfl)
  (RdFs.cons (Rd.int (k := .u8) (by kernel_rfl) (by kernel_rfl)) (RdFs.cons (Rd.int (k := .i64) (by kernel_rfl) (by kernel_rfl)) (RdFs.cons (Rd.int (k := .i64) (by kernel_rfl) (by kernel_rfl)) (RdFs.one (Rd.int (k := .u64) (by kernel_rfl) (by kernel_rfl))))))
  (fun x : S38 => (x.f0, x.f1, x.f2, x.f3)) (fun a => ⟨a.1, a.2.1, a.2.2.1, a.2.2.2⟩) (fun _ => rfl)
theorem rd_block : Rd Tryd.prog k31 31 blockWf := Rd.struct (P := Tryd.prog) (t := 31) (ts := [3, 29]) (by kernel_rfl)
  (RdFs.cons (Rd.int (k := .i64) (by kernel_rfl) (by kernel_rfl)) (RdFs.one (Rd.slice (q := 38) rd_ins (by kernel_rfl) (by kernel_rfl))))
  (fun x : S31 => (x.f0, x.f1)) (fun a => ⟨a.1, a.2⟩) (fun _ => rfl)
theorem rd_blocks : Rd Tryd.prog (Kd.slice 31 k31) 22 (fun l => l.length ≤ maxLen ∧ ∀ b ∈ l, blockWf b) := Rd.slice rd_block (by kernel_rfl) (by kernel_rfl)
theorem rd_ways : Rd Tryd.prog (Kd.slice 4 Kd.bool) 23 (fun l => l.length ≤ maxLen ∧ ∀ b ∈ l, (fun _ => True) b) := Rd.slice (Rd.bool (t := 4) (by kernel_rfl) (by kernel_rfl)) (by kernel_rfl) (by kernel_rfl)
/-- what the readers tell of blocks -/
theorem rd_fine {l : List (S31)} (h : l.length ≤ maxLen ∧ ∀ b ∈ l, blockWf b) :
    l.length ≤ 9223372036854775807 ∧ (∀ b ∈ l, b.f1.length ≤ 9223372036854775807) ∧ ∀ b ∈ l, ∀ i ∈ b.f1, okIns i := by
  have e8 : IntKind.u8.min = 0 ∧ IntKind.u8.max = 255 := by decide
  have e6 : IntKind.i64.min = -9223372036854775808 ∧ IntKind.i64.max = 9223372036854775807 := by decide
  have eu : IntKind.u64.min = 0 ∧ IntKind.u64.max = 18446744073709551615 := by decide
  unfold maxLen at h
  refine ⟨by omega, fun b hb => (h.2 b hb).2.1, fun b hb i hi => ?_⟩
  obtain ⟨h0, h1, h2, h3⟩ := (h.2 b hb).2.2 i hi
  simp only [Lit.wf, e8.1, e8.2, e6.1, e6.2, eu.1, eu.2, Bool.and_eq_true, decide_eq_true_eq] at h0 h1 h2 h3
  exact ⟨by omega, by omega, by omega, by omega, by omega, by omega, by omega, by omega⟩
end Go.Proofs.YtkiamiphmndmcaaDoor.Lib2
