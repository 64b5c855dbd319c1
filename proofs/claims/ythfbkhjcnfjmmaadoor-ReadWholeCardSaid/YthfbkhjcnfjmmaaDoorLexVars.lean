/- What the row lays of the variable that strconv reads; each states its conditions. -/
import Derived.Test.YthfbkhjcnfjmmaaDoorLexC2
import Derived.Stop.LaidErr
import Derived.MakeChecks
import Derived.LaidSub
namespace Go.Proofs.YthfbkhjcnfjmmaaDoor.LexC
open Go Go.RowKit
theorem errStar : "*" ++ "errors.errorString" = "*errors.errorString" := by decide
theorem errRow (u : TypeId) (h : Tryd.prog.typeName? 3 u = some "*errors.errorString") : u = 119 :=
  typeName_ptr_named (nm := "errors.errorString") (by rw [errStar]; kernel_rfl) (by kernel_rfl) (by decide) u (by rw [errStar]; exact h)
theorem vars_of {W : World} {l : List (String × DataW Unit)} (h : laidMetH Tryd.prog l W) (h0 : (l.all fun x => x.2.handleName?.isNone) = true)
    (hf : l.filter (fun x => x.1 == "strconv.ErrRange") = [("strconv.ErrRange", .iface "*errors.errorString" (.ptr (.agg [.lit (.string [118, 97, 108, 117, 101, 32, 111, 117, 116, 32, 111, 102, 32, 114, 97, 110, 103, 101])])))]) : Vars W := by
  rw [MakeChecks.laidMetH_plain _ _ _ h0] at h
  have h1 := h.filter (fun x => x.1 == "strconv.ErrRange")
  rw [hf] at h1
  obtain ⟨a, s, hv, _⟩ := laid_sentinel h1 (show Tryd.prog.globalNamed "strconv.ErrRange" = some 4 by kernel_rfl) (show (Tryd.prog.globals[4]?).map (·.type) = some 87 by kernel_rfl) Tryd.underlying87 errRow Tryd.underlying119 Tryd.underlying121 rfl rfl Tryd.underlying9 (by kernel_rfl) (by kernel_rfl)
  exact ⟨_, World.var?_cell (by kernel_rfl) hv 0, .inr ⟨_, _, rfl⟩⟩
end Go.Proofs.YthfbkhjcnfjmmaaDoor.LexC
