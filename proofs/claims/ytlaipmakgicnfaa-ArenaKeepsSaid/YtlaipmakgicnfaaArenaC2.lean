/- The contract of find; each theorem states its conditions. -/
import Derived.Test.YtlaipmakgicnfaaWordC
import Derived.Test.YtlaipmakgicnfaaArenaC1
namespace Go.Proofs.Ytlaipmakgicnfaa.Ar
open Go Go.RowKit Go.Proofs.Ytlaipmakgicnfaa.Heap Go.Proofs.Ytlaipmakgicnfaa.Word
/-- the thing whose place the word x is -/
def place (l : List Thing) (x : Int) : Option Thing := if x % 8 = 1 ∧ x / 8 < 1099511627776 then look l (x / 8).toNat else none
theorem find_yes {w : World} {g bw bh size : Nat} {l : List Thing} (h : IsAr w g bw bh size l) (x : Int) (h0 : 0 ≤ x) (h8 : x < 18446744073709551616) (o : Thing) (hp : place l x = some o) :
    Calls Try.prog 27 #[.pointer (some ⟨g, 0, none⟩), .int .u64 x] w fun e w' =>
      e = .returned (.tuple #[.slice (if o.2.length = 0 then some ⟨bw, 0, none⟩ else some ⟨bw, (x / 8).toNat + 1, none⟩) o.2.length o.2.length, .int .i64 o.1, .bool true]) ∧ w = w' := by
  have hx : x % 8 = 1 ∧ x / 8 < 1099511627776 := by
    unfold place at hp; split at hp
    · assumption
    · cases hp
  have hl : look l (x / 8).toNat = some o := by unfold place at hp; rw [if_pos hx] at hp; exact hp
  have ht : toP 1 x = (x / 8, true) := by unfold toP; rw [if_pos ⟨.inl rfl, hx.1, hx.2⟩]
  have T := to_one 1 x
  rw [ht] at T
  have hlt := look_lt hl
  have hle := h.tot_le
  have hhi := h.hi
  obtain ⟨n, hn⟩ : ∃ n : Nat, x / 8 = n := ⟨(x / 8).toNat, by omega⟩
  have hnn : (x / 8).toNat = n := by omega
  rw [hnn] at hl hlt ⊢
  rw [hn] at T
  have ho := h.ok o (look_mem hl)
  have cW : w.cell? ⟨g, 0, none⟩ = some (.slice (some ⟨bw, 0, none⟩) size size) := by rw [blk_cell h.pt]; rfl
  have cH : w.cell? ⟨g, 1, none⟩ = some (.slice (some ⟨bh, 0, none⟩) size size) := by rw [blk_cell h.pt]; rfl
  have ch : w.cell? ⟨bh, n, none⟩ = some (.bool true) := by
    obtain ⟨z, _, hz⟩ := h.hd
    rw [blk_cell hz]
    have := look_head l n
    rw [if_pos (by omega), hl] at this
    rw [bools_get, List.getElem?_append_left (show n < (flatH l).length by rw [flatH_len]; omega), this]; rfl
  have cw : w.cell? ⟨bw, n, none⟩ = some (.int .u64 ((o.2.length : Int) * 256 + o.1)) := by
    obtain ⟨z, _, hz⟩ := h.wd
    rw [blk_cell hz]
    rw [nums_get, List.getElem?_append_left (show n < (flatW l).length by rw [flatW_len]; omega), look_word hl]; rfl
  have a1 : Go.bits .and .u64 ((o.2.length : Int) * 256 + o.1) 255 = o.1 := by
    have := u64_mask 8 (by decide) ((o.2.length : Int) * 256 + o.1) (by omega) (by omega)
    rw [show ((2 : Int) ^ 8 - 1) = 255 by decide, show ((2 : Int) ^ 8) = 256 by decide] at this
    rw [this]; omega
  have a2 : ((o.2.length : Int) * 256 + o.1) / 256 = o.2.length := by omega
  have t1 : decide ((n : Int) ≥ (tot l : Int)) = false := by simp; omega
  generalize o.2.length = m at *
  generalize o.1 = kd at *
  clear hl hp ht hn hnn hx
  go_enter Try.func27, Try.ntmps27
  go_wp2_with (first
    | (go_at_call 29; refine (T _ (.inl rfl) h0 h8).mono ?_; rintro e w1 ⟨rfl, rfl⟩)
    | (go_at_call 14; refine (used_calls h).mono ?_; rintro e w1 ⟨rfl, rfl⟩))
  all_goals
    go_ret3
    exact ⟨rfl, rfl⟩
theorem find_no {w : World} {g bw bh size : Nat} {l : List Thing} (h : IsAr w g bw bh size l) (x : Int) (h0 : 0 ≤ x) (h8 : x < 18446744073709551616) (hp : place l x = none) :
    Calls Try.prog 27 #[.pointer (some ⟨g, 0, none⟩), .int .u64 x] w fun e w' =>
      e = .returned (.tuple #[.slice none 0 0, .int .i64 0, .bool false]) ∧ w = w' := by
  have T := to_one 1 x
  have hle := h.tot_le
  have hhi := h.hi
  by_cases hx : x % 8 = 1 ∧ x / 8 < 1099511627776
  · have hl : look l (x / 8).toNat = none := by unfold place at hp; rw [if_pos hx] at hp; exact hp
    have ht : toP 1 x = (x / 8, true) := by unfold toP; rw [if_pos ⟨.inl rfl, hx.1, hx.2⟩]
    rw [ht] at T
    obtain ⟨n, hn⟩ : ∃ n : Nat, x / 8 = n := ⟨(x / 8).toNat, by omega⟩
    have hnn : (x / 8).toNat = n := by omega
    rw [hnn] at hl
    rw [hn] at T
    by_cases hlt : n < tot l
    · have cH : w.cell? ⟨g, 1, none⟩ = some (.slice (some ⟨bh, 0, none⟩) size size) := by rw [blk_cell h.pt]; rfl
      have ch : w.cell? ⟨bh, n, none⟩ = some (.bool false) := by
        obtain ⟨z, _, hz⟩ := h.hd
        rw [blk_cell hz]
        have := look_head l n
        rw [if_pos hlt, hl] at this
        rw [bools_get, List.getElem?_append_left (show n < (flatH l).length by rw [flatH_len]; omega), this]; rfl
      have t1 : decide ((n : Int) ≥ (tot l : Int)) = false := by simp; omega
      clear hl hp ht hn hnn hx
      go_enter Try.func27, Try.ntmps27
      go_wp2_with (first
        | (go_at_call 29; refine (T _ (.inl rfl) h0 h8).mono ?_; rintro e w1 ⟨rfl, rfl⟩)
        | (go_at_call 14; refine (used_calls h).mono ?_; rintro e w1 ⟨rfl, rfl⟩))
      all_goals
        go_ret3
        exact ⟨rfl, rfl⟩
    · have t1 : decide ((n : Int) ≥ (tot l : Int)) = true := by simp; omega
      clear hl hp ht hn hnn hx
      go_enter Try.func27, Try.ntmps27
      go_wp2_with (first
        | (go_at_call 29; refine (T _ (.inl rfl) h0 h8).mono ?_; rintro e w1 ⟨rfl, rfl⟩)
        | (go_at_call 14; refine (used_calls h).mono ?_; rintro e w1 ⟨rfl, rfl⟩))
      all_goals
        go_ret3
        exact ⟨rfl, rfl⟩
  · have ht : toP 1 x = (0, false) := by unfold toP; rw [if_neg (fun h => hx h.2)]
    rw [ht] at T
    clear hp ht hx
    go_enter Try.func27, Try.ntmps27
    go_wp2_with (first
      | (go_at_call 29; refine (T _ (.inl rfl) h0 h8).mono ?_; rintro e w1 ⟨rfl, rfl⟩))
    all_goals
      go_ret3
      exact ⟨rfl, rfl⟩
theorem find_nil (x : Int) (w : World) (h0 : 0 ≤ x) (h8 : x < 18446744073709551616) :
    Calls Try.prog 27 #[.pointer none, .int .u64 x] w fun e w' =>
      e = .returned (.tuple #[.slice none 0 0, .int .i64 0, .bool false]) ∧ w = w' := by
  have T := to_one 1 x
  have hr := toP_range 1 x h0
  by_cases hx : (toP 1 x).2 = true
  · have t1 : decide ((toP 1 x).1 ≥ 0) = true := by simp; omega
    go_enter Try.func27, Try.ntmps27
    go_wp2_with (first
      | (go_at_call 29; refine (T _ (.inl rfl) h0 h8).mono ?_; rintro e w1 ⟨rfl, rfl⟩)
      | (go_at_call 14; refine (used_nil _).mono ?_; rintro e w1 ⟨rfl, rfl⟩))
    all_goals
      go_ret3
      exact ⟨rfl, rfl⟩
  · have hx : (toP 1 x).2 = false := by simpa using hx
    go_enter Try.func27, Try.ntmps27
    go_wp2_with (first
      | (go_at_call 29; refine (T _ (.inl rfl) h0 h8).mono ?_; rintro e w1 ⟨rfl, rfl⟩))
    all_goals
      go_ret3
      exact ⟨rfl, rfl⟩
end Go.Proofs.Ytlaipmakgicnfaa.Ar
