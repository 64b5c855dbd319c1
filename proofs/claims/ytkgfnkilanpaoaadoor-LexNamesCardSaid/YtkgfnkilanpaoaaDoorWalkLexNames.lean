/- The walk of LexNames: for any bytes the law answers true; its premises are what the row gives. -/
import Derived.Test.YtkgfnkilanpaoaaDoorLexP4
import Derived.Test.YtkgfnkilanpaoaaDoorLexCt
import Derived.Test.YtkgfnkilanpaoaaDoorRows
import Derived.Laws.IdiomStrings
namespace Go.Proofs.YtkgfnkilanpaoaaDoor.PLexs
open Go Go.RowKit Go.Proofs.YtkgfnkilanpaoaaDoor.LexP Go.Proofs.YtkgfnkilanpaoaaDoor.LexC Go.Proofs.YtkgfnkilanpaoaaDoor.Own Go.Proofs.YtkgfnkilanpaoaaDoorW.PrintWords Go.Proofs.YtkgfnkilanpaoaaDoorW.PrintLast Go.Proofs.YtkgfnkilanpaoaaDoorW.PrintMore
attribute [local go_sem] Own.max2_int Own.min2_int Own.max_two Own.min_two
/-- the cells of a row of one token -/
theorem own_one {w : World} {base : Nat} {B : Option Addr} {c : Nat} {t : Tok} (h : w.ownsRow base 30 4 (.slice B [t].length c) [t].length ([t].flatMap tokC)) :
    ∃ bb, B = some ⟨bb, 0, none⟩ ∧ w.cell? ⟨bb, 0, none⟩ = some (.int .u8 t.kind) ∧ w.cell? ⟨bb, 1, none⟩ = some (.int .i64 t.pos) ∧ w.cell? ⟨bb, 2, none⟩ = some (.int .i64 t.n) ∧ w.cell? ⟨bb, 3, none⟩ = some (.string ⟨t.s.toArray⟩) := by
  have hs := Src.own h
  rcases h.2 with ⟨h1, _⟩ | ⟨g, cap, cur, h1, _⟩
  · simp at h1
  · simp only [Value.slice.injEq] at h1
    obtain ⟨rfl, _, _⟩ := h1
    obtain ⟨b, o, h3, _, hc⟩ := hs.pl (by simp) (by decide)
    injection h3 with h3
    injection h3 with h3 h4
    subst h3; subst h4
    refine ⟨g, rfl, ?_, ?_, ?_, ?_⟩
    · exact hc 0 _ rfl
    · exact hc 1 _ rfl
    · exact hc 2 _ rfl
    · exact hc 3 _ rfl
set_option maxHeartbeats 8000000 in
set_option maxRecDepth 100000 in
theorem walkNames (A : Option Addr) (len cap : Nat) (zs : List Int) (w : World) (hV : Vars w) (hz : IsRow .u8 w A len cap zs) (_hy : len * 1 ≤ 140737488351232) :
    Calls Tryd.prog 7 #[.slice A len cap] w fun e w' => e = .returned (.bool true) ∧ Below w.heap.size w w' := by
  obtain ⟨m, hmin, m1, m2, m3⟩ := min_nat len 60 60 rfl
  have hlc : len ≤ cap := by rcases hz with ⟨_, rfl, rfl, _⟩ | ⟨_, _, h, _⟩ <;> omega
  have hlz : (zs.take m).length = m := by
    rcases hz with ⟨_, rfl, rfl, rfl⟩ | ⟨_, _, h, _, h2, _⟩
    · simp; omega
    · simp; omega
  have hsrc := hz.src m m1 cap
  have hwf : ∀ (j : Nat) (x : Int), (zs.take m)[j]? = some x → 0 ≤ x ∧ x < 256 := by
    intro j x hj
    rcases hz with ⟨_, _, _, rfl⟩ | ⟨_, _, _, _, _, _, h2⟩
    · simp at hj
    · have := h2 x (List.mem_of_mem_take (List.mem_of_getElem? hj))
      have h1 : IntKind.u8.min = 0 := by decide
      have h3 : IntKind.u8.max = 255 := by decide
      simp only [Lit.wf, h1, h3, Bool.and_eq_true, decide_eq_true_eq] at this
      omega
  generalize zs.take m = xs at *
  obtain ⟨many, hmany⟩ : ∃ many : Bool, many = decide (1 < len) := ⟨_, rfl⟩
  have hmm : 0 < m → many = decide (1 < m) := fun _ => by
    rw [hmany]; congr 1; rcases m3 with h | h <;> simp <;> omega
  have HMM := Lib.hid hmm
  have HMANY := Lib.hid hmany
  have HWF := Lib.hid hwf
  have HLZ := Lib.hid hlz
  have HSRC := Lib.hid hsrc
  have blen : (0 : Int) ≤ (len : Int) := by omega
  replace hV := Aside0.mk hV
  clear hz hwf hlz hsrc hmm hmany
  go_enter Tryd.func7, Tryd.ntmps7
  go_wp2_with fail
  refine (eddywheellaw05_shown.calls 6 true _ (Go.Proofs.YtkgfnkilanpaoaaDoor.Pure.shown_ok 6 (by omega)) hV).mono ?_
  rintro e w1 ⟨rfl, hb1⟩
  have HB := Aside0.mk hb1
  clear hb1
  go_wp2_with fail
  generalize hX : (⟨#[97, 98, 99, 120, 121, 122, 65, 66, 90, 48, 49, 50, 51, 52, 53, 54, 55, 56, 57, 33, 36, 37, 38, 42, 43, 45, 47, 58, 60, 61, 62, 63, 94, 95, 126]⟩ : ByteArray) = X
  have HX : Hid (X.data.toList = lettersL) := by rw [← hX]; rfl
  have hXs : X.size = 35 := by rw [← hX]; rfl
  have bm : (m : Int) ≤ 60 := by omega
  have ML : m ≤ len := m1
  clear hX hmin m1 m3
  go_loopw [5, 6, 20] (fun s b i wr => ∃ (k : Nat) (S : ByteArray) (nb : Bool), s = .string S ∧ b = .bool nb ∧ i = .int .i64 k ∧ k ≤ m ∧ Hid (S.data.toList = (xs.take k).map nameB) ∧ Hid (nb = numK many (xs.map nameB) k) ∧ Aside0 (Below w.heap.size w wr)) (fun _ _ i _ => m - (intOf5 i).toNat)
  case atStart => exact ⟨0, ⟨#[]⟩, true, rfl, rfl, rfl, Nat.zero_le _, rfl, rfl, HB⟩
  case round =>
    obtain ⟨k, S, nb, rfl, rfl, rfl, hk, HS, HNB, HB⟩ := hrel
    have hSs : S.size ≤ 60 := by
      rw [Lib.size_eq, show S.data.toList = _ from HS, List.length_map, List.length_take]; omega
    by_cases hlt : k < m
    · obtain ⟨bb, o, rfl, hbl, hcell⟩ := (HSRC.out.grow (Heap.Chg.of_below HB.out)).pl (by omega) (by decide)
      have hlz := HLZ.out
      obtain ⟨x, hx⟩ : ∃ x, xs[k]? = some x := ⟨_, List.getElem?_eq_getElem (by omega)⟩
      have hq : wr.cell? ⟨bb, o + k, none⟩ = some (.int .u8 x) := hcell _ _ (by simp [Heap.nums, hx])
      obtain ⟨x0, x1⟩ := HWF.out k x hx
      have e0 : decide ((k : Int) < (m : Int)) = true := decide_eq_true (by omega)
      have e0' : decide (k < m) = true := decide_eq_true hlt
      have bj0 : (0 : Int) ≤ (k : Int) := by omega
      have bj1 : (k : Int) < (m : Int) := by omega
      obtain ⟨q, hq35⟩ : ∃ q : Nat, x % 35 = q := ⟨(x % 35).toNat, by omega⟩
      have hq2 : Int.tmod x 35 = (q : Int) := by rw [Int.tmod_eq_emod_of_nonneg x0, hq35]
      have q0 : q < 35 := by omega
      have HXX := Lib.hid hx
      clear hcell hx hlz
      have hqX : q < X.size := by rw [hXs]; exact q0
      obtain ⟨c, hc⟩ : ∃ c, X[q]'hqX = c := ⟨_, rfl⟩
      have hcn : nameB x = c := by
        have h1 := Lib.data_getElem? X q hqX
        rw [hc, show X.data.toList = lettersL from HX] at h1
        unfold nameB
        rw [hq35, Int.toNat_natCast, List.getD_eq_getElem?_getD, h1]
        rfl
      have hcl := c.toNat_lt
      have HS1 : Hid ((S ++ (⟨#[c]⟩ : ByteArray)).data.toList = (xs.take (k + 1)).map nameB) := Lib.hid (by
        rw [List.take_add_one, show xs[k]? = some x from HXX, List.map_append, ← show S.data.toList = _ from HS]
        simp [ByteArray.data_append, hcn])
      have HN : Hid (∀ b, b = (nb && okAt many k c) → Hid (b = numK many (xs.map nameB) (k + 1))) := Lib.hid (fun b hb => Lib.hid (by
        rw [hb, numK_succ, ← show nb = _ from HNB]
        congr 2
        rw [List.getD_eq_getElem?_getD, List.getElem?_map, show xs[k]? = some x from HXX]
        exact hcn.symm))
      have hdig := isDigit_iff c
      have KC : (convert 35 9 (.slice (some ⟨wr.heap.size, 0, none⟩) 1 1)).run Tryd.prog (wr.alloc (.cells #[.int .u8 ((c.toNat : Nat) : Int)] 5)) = .ok (.string ⟨#[c]⟩) (wr.alloc (.cells #[.int .u8 ((c.toNat : Nat) : Int)] 5)) :=
        run_convert_bytes_back _ 35 9 5 ⟨wr.heap.size, 0, none⟩ 1 [c] Tryd.underlying35 Tryd.underlying5 Tryd.underlying9 (fun j hj => by
          have : j = 0 := by simpa using hj
          subst this
          rw [add_flat, Heap.blk_cell (blk_new wr _ _)]
          rfl)
      have hdd : Hid (isDigit c = true ↔ 48 ≤ c.toNat ∧ c.toNat ≤ 57) := hdig
      clear hdig hcn hq35
      have ways : (∃ b, b = (nb && okAt many k c) ∧ (nb = false ∧ b = false ∨ nb = true ∧ 48 ≤ c.toNat ∧ c.toNat ≤ 57 ∧ b = true ∨ nb = true ∧ 48 ≤ c.toNat ∧ 57 < c.toNat ∧ k ≠ 0 ∧ b = false ∨ nb = true ∧ 48 ≤ c.toNat ∧ 57 < c.toNat ∧ k = 0 ∧ c.toNat ≠ 45 ∧ b = false ∨ nb = true ∧ c.toNat < 48 ∧ k ≠ 0 ∧ b = false ∨ nb = true ∧ c.toNat < 48 ∧ k = 0 ∧ c.toNat ≠ 45 ∧ b = false ∨ nb = true ∧ c.toNat < 48 ∧ k = 0 ∧ c.toNat = 45 ∧ 1 < len ∧ b = true ∨ nb = true ∧ c.toNat < 48 ∧ k = 0 ∧ c.toNat = 45 ∧ ¬ 1 < len ∧ b = false)) := by
        refine ⟨_, rfl, ?_⟩
        have h45 : (c == 45) = decide (c.toNat = 45) := by
          by_cases h : c = 45
          · subst h; rfl
          · have : c.toNat ≠ 45 := fun e => h (UInt8.toNat_inj.1 e)
            simp [h, this]
        have hdd2 : isDigit c = decide (48 ≤ c.toNat ∧ c.toNat ≤ 57) := by
          rw [Bool.eq_iff_iff, decide_eq_true_eq]; exact hdd
        have hk0 : (k == 0) = decide (k = 0) := rfl
        unfold okAt
        rw [h45, hdd2, show many = decide (1 < len) from HMANY]
        cases nb
        · simp
        · by_cases g1 : 48 ≤ c.toNat <;> by_cases g2 : c.toNat ≤ 57 <;> by_cases g3 : k = 0 <;> by_cases g4 : c.toNat = 45 <;> by_cases g5 : 1 < len <;> simp [g1, g2, g3, g4, g5] <;> omega
      obtain ⟨b, hb, ways⟩ := ways
      have HN2 := HN.out b hb
      clear hb HN
      obtain ⟨rfl, rfl⟩ | ⟨rfl, g1, g2, rfl⟩ | ⟨rfl, g1, g2, g3, rfl⟩ | ⟨rfl, g1, g2, g3, g4, rfl⟩ | ⟨rfl, g1, g3, rfl⟩ | ⟨rfl, g1, g3, g4, rfl⟩ | ⟨rfl, g1, g3, g4, g5, rfl⟩ | ⟨rfl, g1, g3, g4, g5, rfl⟩ := ways
      all_goals
        try (have f1 : decide (48 ≤ ((c.toNat : Nat) : Int)) = true := decide_eq_true (by omega))
        try (have f1 : decide (48 ≤ ((c.toNat : Nat) : Int)) = false := decide_eq_false (by omega))
        try (have f1' : decide (48 ≤ c.toNat) = true := decide_eq_true (by omega))
        try (have f1' : decide (48 ≤ c.toNat) = false := decide_eq_false (by omega))
        try (have f2 : decide (((c.toNat : Nat) : Int) ≤ 57) = true := decide_eq_true (by omega))
        try (have f2 : decide (((c.toNat : Nat) : Int) ≤ 57) = false := decide_eq_false (by omega))
        try (have f2' : decide (c.toNat ≤ 57) = true := decide_eq_true (by omega))
        try (have f2' : decide (c.toNat ≤ 57) = false := decide_eq_false (by omega))
        try (have f3 : ((k : Int) == 0) = true := by rw [g3]; rfl)
        try (have f3 : ((k : Int) == 0) = false := by simpa using g3)
        try (have f4 : (((c.toNat : Nat) : Int) == 45) = true := by rw [g4]; rfl)
        try (have f4 : (((c.toNat : Nat) : Int) == 45) = false := by simp; omega)
        try (have f5 : decide (1 < (len : Int)) = true := decide_eq_true (by omega))
        try (have f5 : decide (1 < (len : Int)) = false := decide_eq_false (by omega))
        try (have f5' : decide (1 < len) = true := decide_eq_true (by omega))
        try (have f5' : decide (1 < len) = false := decide_eq_false (by omega))
        try clear g1
        try clear g2
        try clear g3
        try clear g4
        try clear g5
        go_wp2
        go_roundw
        case rel => exact ⟨k + 1, _, _, rfl, rfl, by simp, by omega, HS1, HN2, ⟨by repeat (first | exact HB.out | apply below_alloc)⟩⟩
        case measure => simp [intOf5]; omega
    · have e0 : decide ((k : Int) < (m : Int)) = false := decide_eq_false (by omega)
      have e0' : decide (k < m) = false := decide_eq_false hlt
      have hkm : k = m := by omega
      have hlz := HLZ.out
      have hSL : S.data.toList = xs.map nameB := by
        rw [show S.data.toList = _ from HS, List.take_of_length_le (by omega)]
      have hnb : nb = numK many (xs.map nameB) (xs.map nameB).length := by
        rw [show nb = _ from HNB, List.length_map, hlz, hkm]
      have hall : ∀ y ∈ xs.map nameB, isLetter y = true := fun y hy => by
        obtain ⟨z, _, rfl⟩ := List.mem_map.1 hy
        exact nameB_letter z
      have hlen : (xs.map nameB).length = m := by rw [List.length_map]; exact hlz
      have hSz := Lib.size_eq S
      have hmm := HMM.out
      have FS := fun w hV => lex_calls S w hV
      rw [lexF_eq (by rw [hSL, hlen]; omega), hSL] at FS
      rw [hSL, hlen] at hSz
      have V1 := Aside0.mk (hV.out.below HB.out (Nat.le_refl _))
      generalize xs.map nameB = L at *
      cases L with
      | nil =>
        have hS0 : S = ⟨#[]⟩ := Go.Proofs.YtkgfnkilanpaoaaDoor.Pure.ba_eq S [] hSL
        subst hS0
        rw [lexL_nil] at FS
        simp only [LexPost] at FS
        have FS' := Lib.hid FS
        clear FS hnb hall hlen hSz hmm hSL hkm hlz
        go_wp2_with fail
        refine (FS'.out wr V1.out).mono ?_
        rintro e w2 ⟨⟨B, c, rfl, ho⟩, hb⟩
        have HB2 := Aside0.mk (below_then HB.out HB.out.size hb)
        clear hb ho
        go_wp2_with fail
        go_ret
        exact ⟨rfl, HB2.out⟩
      | cons c r =>
        have hne : S.toList.isEmpty = false := by rw [Go.Proofs.YtkgfnkilanpaoaaDoor.Pure.ba_tl, hSL]; rfl
        have hne2 : (S.toList == []) = false := by rw [Go.Proofs.YtkgfnkilanpaoaaDoor.Pure.ba_tl, hSL]; rfl
        have hnn := numK_numP many c r (by rw [hlen]; exact hmm (by rw [← hlen]; simp))
        rw [hnn] at hnb
        have hSe := Go.Proofs.YtkgfnkilanpaoaaDoor.Pure.ba_eq S (c :: r) hSL
        obtain ⟨hn, hw⟩ | ⟨hn, h32, hw⟩ | ⟨hn, h32, hw⟩ := names_law c r hall
        · rw [hn] at hnb
          subst hnb
          obtain ⟨v, hw⟩ | ⟨h12, hw⟩ := hw
          · rw [hw] at FS
            simp only [LexPost] at FS
            have FS' := Lib.hid FS
            clear FS hall hlen hSz hmm hSL hkm hlz hnn hn hw hSe
            go_wp2_with fail
            refine (FS'.out wr V1.out).mono ?_
            rintro e w2 ⟨⟨B, cc, rfl, ho⟩, hb⟩
            have HB2 := Aside0.mk (below_then HB.out HB.out.size hb)
            obtain ⟨bb, rfl, z0, z1, z2, z3⟩ := own_one ho
            clear hb ho
            go_wp2_with fail
            go_ret
            exact ⟨rfl, HB2.out⟩
          · rw [hw] at FS
            simp only [LexPost] at FS
            have FS' := Lib.hid FS
            have c12 : decide (12 < (S.size : Int)) = true := decide_eq_true (by omega)
            have c12' : decide (12 < S.size) = true := decide_eq_true (by omega)
            clear FS hall hlen hSz hmm hSL hkm hlz hnn hn hw hSe h12
            go_wp2_with fail
            refine (FS'.out wr V1.out).mono ?_
            rintro e w2 ⟨rfl, hb⟩
            have HB2 := Aside0.mk (below_then HB.out HB.out.size hb)
            clear hb
            go_wp2_with fail
            go_ret
            exact ⟨rfl, HB2.out⟩
        · rw [hn] at hnb
          subst hnb
          rw [hw] at FS
          simp only [LexPost] at FS
          have FS' := Lib.hid FS
          have c32 : decide (32 < (S.size : Int)) = true := decide_eq_true (by omega)
          have c32' : decide (32 < S.size) = true := decide_eq_true (by omega)
          clear FS hall hlen hSz hmm hSL hkm hlz hnn hn hw hSe h32
          go_wp2_with fail
          refine (FS'.out wr V1.out).mono ?_
          rintro e w2 ⟨rfl, hb⟩
          have HB2 := Aside0.mk (below_then HB.out HB.out.size hb)
          clear hb
          go_wp2_with fail
          go_ret
          exact ⟨rfl, HB2.out⟩
        · rw [hn] at hnb
          subst hnb
          rw [hw] at FS
          simp only [LexPost] at FS
          have FS' := Lib.hid FS
          have HSE := Lib.hid hSe
          have c32 : decide (32 < (S.size : Int)) = false := decide_eq_false (by omega)
          have c32' : decide (32 < S.size) = false := decide_eq_false (by omega)
          clear FS hall hlen hSz hmm hSL hkm hlz hnn hn hw hSe h32
          go_wp2_with fail
          refine (FS'.out wr V1.out).mono ?_
          rintro e w2 ⟨⟨B, cc, rfl, ho⟩, hb⟩
          have HB2 := Aside0.mk (below_then HB.out HB.out.size hb)
          obtain ⟨bb, rfl, z0, z1, z2, z3⟩ := own_one ho
          simp only [← show S = _ from HSE] at z3
          clear hb ho
          go_wp2_with fail
          go_ret
          exact ⟨rfl, HB2.out⟩
theorem walkLexNames (A : Option Addr) (len cap : Nat) (zs : List Int) (w : World) (hL : laidMetH Tryd.prog Rows.lexNamesRow.laid w) (hz : IsRow .u8 w A len cap zs) (hy : len * 1 ≤ 140737488351232) :
    Calls Tryd.prog 7 #[.slice A len cap] w fun e w' => e = .returned (.bool true) ∧ Below w.heap.size w w' :=
  walkNames A len cap zs w (vars_of hL (by kernel_rfl) (by kernel_rfl)) hz hy
end Go.Proofs.YtkgfnkilanpaoaaDoor.PLexs
