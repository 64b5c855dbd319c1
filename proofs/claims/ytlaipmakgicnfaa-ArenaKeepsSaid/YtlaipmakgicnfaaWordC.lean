/- Contracts of word.Of and word.To, walked; each states its conditions. -/
import Derived.Test.YtlaipmakgicnfaaProg
import Derived.Test.YtlaipmakgicnfaaWordP
import Derived.Below
import Derived.Deep.Draws
import Derived.Deep.AppendLies
import Derived.Maps.AppendAt
import Derived.OwnWalk
import Derived.Laws.BytesArg
import Derived.Laws.MakeOwn
import Derived.Laws.OwnMore
import Derived.Deep.OwnRows
import Derived.Tactics
import Derived.Lib.ConvBytes
import Derived.Laws.Slices
import Derived.WalkKit
import Derived.KernelRfl
import Derived.RowKit3
import Derived.Deep.LoopGhost
import Derived.Deep.QuietTactic
import Derived.BigQuiet
import Derived.WideLaws
import Derived.Deep.DeepCutAuto
import Derived.Deep.CutBlock
import Derived.Deep.RegionHeld3
import Derived.Laws.Rows
import Derived.Lib.AppendStr
import Derived.ArgAppend
import Derived.Laws.IdiomCopy
import Derived.OrdersHeld
import Derived.Laws.BitsLemmas
import Derived.RowKit
import Derived.Lib.Hide
import Derived.StillTailTactics
namespace Go.Proofs.Ytlaipmakgicnfaa.Word
open Go Go.RowKit
theorem of_at (n : Int) (w : World) (h0 : 0 ≤ n) (h1 : n < 1099511627776) :
    Calls Try.prog 25 #[.int .i64 1, .int .i64 n] w fun e w' => e = .returned (.tuple #[.int .u64 (n * 8 + 1), .int .i64 0]) ∧ w = w' := by
  have e1 : IntKind.u64.wrap n = n := by rw [wrap_u64]; omega
  have e2 : IntKind.u64.wrap (n * 8) = n * 8 := by rw [wrap_u64]; omega
  have e3 : Go.bits .or .u64 (n * 8) 1 = n * 8 + 1 := u64_or8 (by omega) (by omega) (by omega) (by omega) (by omega)
  have t0 : decide (n ≥ 0) = true := by simp; omega
  have t1 : decide (n < 1099511627776) = true := by simp; omega
  go_enter Try.func25, Try.ntmps25
  go_wp2
  go_ret2
  exact ⟨rfl, rfl⟩
theorem to_one (kd x : Int) (w : World) (hk : kd = 1 ∨ kd = 3 ∨ kd = 4) (h0 : 0 ≤ x) (h8 : x < 18446744073709551616) :
    Calls Try.prog 29 #[.int .i64 kd, .int .u64 x] w fun e w' => e = .returned (.tuple #[.int .i64 (toP kd x).1, .bool (toP kd x).2]) ∧ w = w' := by
  have e1 : Go.bits .and .u64 x 7 = x % 8 := u64_and7 x h0 h8
  have hd : 0 ≤ x / 8 := by omega
  have hw : wrap64 (x / 8) = x / 8 := wrap64_id (by omega) (by omega)
  by_cases hm : x % 8 = kd
  · by_cases h1 : x / 8 < 1099511627776
    · have ht : toP kd x = (x / 8, true) := by unfold toP; rw [if_pos ⟨hk, hm, h1⟩]
      have t1 : decide (x / 8 < 1099511627776) = true := by simpa using h1
      rw [ht]; clear ht
      rw [hm] at e1
      clear hm h0 h8
      rcases hk with rfl | rfl | rfl <;>
      · go_enter Try.func29, Try.ntmps29
        go_wp2
        go_ret2
        exact ⟨rfl, rfl⟩
    · have ht : toP kd x = (0, false) := by unfold toP; rw [if_neg (fun h => h1 h.2.2)]
      have t1 : decide (x / 8 < 1099511627776) = false := by simpa using h1
      rw [ht]; clear ht
      rw [hm] at e1
      clear hm h0 h8 h1
      rcases hk with rfl | rfl | rfl <;>
      · go_enter Try.func29, Try.ntmps29
        go_wp2
        go_ret2
        exact ⟨rfl, rfl⟩
  · have ht : toP kd x = (0, false) := by unfold toP; rw [if_neg (fun h => hm h.2.1)]
    rw [ht]; clear ht
    rcases hk with rfl | rfl | rfl
    · have t1 : (x % 8 == 1) = false := by simpa using hm
      clear hm h0 h8
      go_enter Try.func29, Try.ntmps29
      go_wp2
      go_ret2
      exact ⟨rfl, rfl⟩
    · have t1 : (x % 8 == 3) = false := by simpa using hm
      clear hm h0 h8
      go_enter Try.func29, Try.ntmps29
      go_wp2
      go_ret2
      exact ⟨rfl, rfl⟩
    · have t1 : (x % 8 == 4) = false := by simpa using hm
      clear hm h0 h8
      go_enter Try.func29, Try.ntmps29
      go_wp2
      go_ret2
      exact ⟨rfl, rfl⟩
end Go.Proofs.Ytlaipmakgicnfaa.Word
