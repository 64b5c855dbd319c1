/- The walk of ReadAt: for any text the law answers true; its premise is what the row lays. -/
import Derived.Test.YthfbkhjcnfjmmaaDoorReadW
import Derived.Test.YthfbkhjcnfjmmaaDoorReadP3
import Derived.Test.YthfbkhjcnfjmmaaDoorLexVars
import Derived.Test.YthfbkhjcnfjmmaaDoorRows
namespace Go.Proofs.YthfbkhjcnfjmmaaDoor.ReadM
open Go Go.RowKit Go.Proofs.YthfbkhjcnfjmmaaDoor.Heap Go.Proofs.YthfbkhjcnfjmmaaDoor.Own Go.Proofs.YthfbkhjcnfjmmaaDoor.ReadP Go.Proofs.YthfbkhjcnfjmmaaDoor.LexP
open Go.Proofs.YthfbkhjcnfjmmaaDoorW.PrintWords (Aside0 below_then below_alloc)
theorem ba_tl (s : ByteArray) : s.toList = s.data.toList := by
  obtain ⟨⟨l⟩⟩ := s
  exact ByteArray.toList_mk l
theorem ba_eq (s : ByteArray) (l : List UInt8) (h : s.data.toList = l) : s = ⟨l.toArray⟩ := by
  cases s; subst h; simp
set_option maxHeartbeats 4000000 in
set_option maxRecDepth 100000 in
theorem at_big (s : ByteArray) (w : World) (hV : Go.Proofs.YthfbkhjcnfjmmaaDoor.LexC.Vars w) (hbig : 1000 < s.size) :
    Calls Tryd.prog 7 #[.string s] w fun e w' => e = .returned (.bool true) ∧ Below w.heap.size w w' := by
  have c1 : decide (1000 < (s.size : Int)) = true := decide_eq_true (by omega)
  have c2 : decide (1000 < s.size) = true := decide_eq_true hbig
  clear hbig
  go_enter Tryd.func7, Tryd.ntmps7
  go_wp2_with fail
  refine (shown_calls _ hV).mono ?_
  rintro e w1 ⟨rfl, hb⟩
  go_wp2
  go_ret
  exact ⟨rfl, hb⟩
set_option maxHeartbeats 8000000 in
set_option maxRecDepth 100000 in
theorem at_small (s : ByteArray) (w : World) (hV : Go.Proofs.YthfbkhjcnfjmmaaDoor.LexC.Vars w) (hs : s.size ≤ 1000) :
    Calls Tryd.prog 7 #[.string s] w fun e w' => e = .returned (.bool true) ∧ Below w.heap.size w w' := by
  have c1 : decide (1000 < (s.size : Int)) = false := decide_eq_false (by omega)
  have c2 : decide (1000 < s.size) = false := decide_eq_false (by omega)
  have HZ := Lib.hid (Lib.size_eq s)
  have FS := fun w hV => read_calls s w hV
  replace hV := Aside0.mk hV
  cases hR : readF s.data.toList with
  | error x =>
    obtain ⟨i, er⟩ := x
    have hne : er ≠ 0 := readF_err hR
    have t1 : (er == 0) = false := by simpa using hne
    have t1' : (er != 0) = true := by simpa using hne
    rw [hR] at FS
    simp only [ReadPost] at FS
    have FS' := Lib.hid FS
    clear FS hR hne
    go_enter Tryd.func7, Tryd.ntmps7
    go_wp2_with fail
    refine (shown_calls _ hV.out).mono ?_
    rintro e w1 ⟨rfl, hb⟩
    have HB := Aside0.mk hb
    have V1 := Aside0.mk (hV.out.below HB.out (Nat.le_refl _))
    clear hb
    go_wp2_with fail
    refine (FS'.out w1 V1.out).mono ?_
    rintro e w2 ⟨⟨base, hbl, rfl⟩, hb⟩
    have HB2 := Aside0.mk (below_then HB.out HB.out.size hb)
    clear hb hbl
    go_wp2_with fail
    go_ret
    exact ⟨rfl, HB2.out⟩
  | ok x =>
    obtain ⟨row, tops⟩ := x
    obtain ⟨hok, hlen⟩ := read_ok hR
    rw [hR] at FS
    simp only [ReadPost] at FS
    have HOK := Lib.hid hok
    have FS' := Lib.hid FS
    clear FS hR hok
    go_enter Tryd.func7, Tryd.ntmps7
    go_wp2_with fail
    refine (shown_calls _ hV.out).mono ?_
    rintro e w1 ⟨rfl, hb⟩
    have HB := Aside0.mk hb
    have V1 := Aside0.mk (hV.out.below HB.out (Nat.le_refl _))
    clear hb
    go_wp2_with fail
    refine (FS'.out w1 V1.out).mono ?_
    rintro e w2 ⟨⟨base, hbl, v0, v1, rs, rfl, hrs, hN, hT, hI, _⟩, hb⟩
    have HB2 := Aside0.mk (below_then HB.out HB.out.size hb)
    obtain ⟨A, c, rfl, hc, hcell, hri⟩ := Nodes.rn hN hI
    have HRI := Lib.hid hri
    clear hri
    have hrl : rs.length ≤ 8002 := by have := congrArg List.length hrs; simp at this; omega
    have HCELL := Lib.hid hcell
    have HRS := Lib.hid hrs
    clear hb hbl hrs hN hT hI hcell hlen
    generalize hn : rs.length = n at *
    have HN := Lib.hid hn
    have bn : (n : Int) ≤ 8002 := by omega
    clear hn
    go_wp2_with fail
    go_loopw [28] (fun i wr => ∃ k : Nat, i = .int .i64 k ∧ k ≤ n ∧ Aside0 (Below w2.heap.size w2 wr)) (fun i _ => n - (intOf6 i).toNat)
    case atStart => exact ⟨0, rfl, Nat.zero_le _, ⟨Below.refl _ _⟩⟩
    case round =>
      obtain ⟨k, rfl, hk, HBL⟩ := hrel
      by_cases hkl : k < n
      · have e0 : decide ((k : Int) < (n : Int)) = true := decide_eq_true (by omega)
        have e0' : decide (k < n) = true := decide_eq_true hkl
        obtain ⟨b, o, rfl, hc5⟩ := HCELL.out (by omega)
        obtain ⟨p, hp⟩ : ∃ p, rs[k]? = some p := ⟨_, List.getElem?_eq_getElem (by rw [show rs.length = n from HN]; exact hkl)⟩
        obtain ⟨a0, a1, a2, a3, a4⟩ := hc5 k p hp
        have KB : Chg [] w2 wr := Chg.of_below HBL.out
        have x0 := KB.cell a0 (by simp)
        have x1 := KB.cell a1 (by simp)
        have x2 := KB.cell a2 (by simp)
        have x3 := KB.cell a3 (by simp)
        have x4 := KB.cell a4 (by simp)
        clear a0 a1 a2 a3 a4
        have hpo := HOK.out p.1 (by rw [← show rs.map (·.1) = row from HRS]; exact List.mem_map_of_mem (List.mem_of_getElem? hp))
        obtain ⟨Lv1, Lv2, hLv, _⟩ := HRI.out p (List.mem_of_getElem? hp)
        obtain ⟨⟨kd, pos, nn, sb, ll⟩, Lv⟩ := p
        simp only at hLv
        subst hLv
        simp only at x0 x1 x2 x3 x4 hpo
        obtain ⟨⟨k1, k2⟩, d1, d2, ch, hch, r1, r2, r3, r4⟩ := hpo
        simp only at k1 k2 d1 d2 hch r1 r2 r3 r4
        obtain ⟨q, rfl⟩ : ∃ q : Nat, pos = q := ⟨pos.toNat, by omega⟩
        rw [Int.toNat_natCast] at hch
        rw [← show s.size = _ from HZ] at d2
        have hq : q < s.size := by omega
        have hsq : s[q]'hq = ch := by
          have := Lib.data_getElem? s q hq
          rw [hch] at this
          exact (Option.some.inj this).symm
        have p0 : (0 : Int) ≤ (k : Int) := by omega
        have p1 : (k : Int) < (n : Int) := by omega
        have q0 : (0 : Int) ≤ (q : Int) := by omega
        have q1 : (q : Int) < (s.size : Int) := by omega
        have q2 : decide ((q : Int) < 0) = false := decide_eq_false (by omega)
        have q3 : decide ((s.size : Int) ≤ (q : Int)) = false := decide_eq_false (by omega)
        have q3' : decide (s.size ≤ q) = false := decide_eq_false (by omega)
        have q4 : (q : Int) < 1000 := by omega
        have hchl := ch.toNat_lt
        clear hc5 hp KB hch
        have hkd : kd = 1 ∨ kd = 2 ∨ kd = 3 ∨ kd = 4 := by omega
        obtain ⟨S, hS⟩ : ∃ S : ByteArray, S = ⟨sb.toArray⟩ := ⟨_, rfl⟩
        have hSl : S.data.toList = sb := by rw [hS]
        have hSz : S.size = sb.length := by rw [Lib.size_eq, hSl]
        rw [← hS] at x3
        obtain rfl | rfl | rfl | rfl := hkd
        · have r1 := r1 rfl
          clear r2 r3 r4 hS hSl hSz
          rcases r1 with h | h
          · have f1 : (((ch.toNat : Nat) : Int) != 45) = false := by rw [h]; rfl
            clear h
            go_wp2
            go_roundw
            case rel => exact ⟨k + 1, by simp, by omega, ⟨by repeat (first | exact HBL.out | apply below_alloc | apply Go.Proofs.YthfbkhjcnfjmmaaDoorW.PrintWords.pw_below_drewN)⟩⟩
            case measure => simp [intOf6]; omega
          · have h := (Go.Proofs.YthfbkhjcnfjmmaaDoor.LexC.isDigit_iff ch).1 h
            have f1 : (((ch.toNat : Nat) : Int) != 45) = true := by simp; omega
            have f2 : decide (((ch.toNat : Nat) : Int) < 48) = false := decide_eq_false (by omega)
            have f2' : decide (ch.toNat < 48) = false := decide_eq_false (by omega)
            have f3 : decide (57 < ((ch.toNat : Nat) : Int)) = false := decide_eq_false (by omega)
            have f3' : decide (57 < ch.toNat) = false := decide_eq_false (by omega)
            clear h
            go_wp2
            go_roundw
            case rel => exact ⟨k + 1, by simp, by omega, ⟨by repeat (first | exact HBL.out | apply below_alloc | apply Go.Proofs.YthfbkhjcnfjmmaaDoorW.PrintWords.pw_below_drewN)⟩⟩
            case measure => simp [intOf6]; omega
        · have r2 := r2 rfl
          clear r1 r3 r4 hS hSl hSz
          have f1 : (((ch.toNat : Nat) : Int) != 35) = false := by rw [r2]; rfl
          clear r2
          go_wp2
          go_roundw
          case rel => exact ⟨k + 1, by simp, by omega, ⟨by repeat (first | exact HBL.out | apply below_alloc | apply Go.Proofs.YthfbkhjcnfjmmaaDoorW.PrintWords.pw_below_drewN)⟩⟩
          case measure => simp [intOf6]; omega
        · have r3 := r3 rfl
          clear r1 r2 r4
          by_cases hA : ch = 39 ∧ sb = quoteL
          · have f1 : (((ch.toNat : Nat) : Int) == 39) = true := by rw [hA.1]; rfl
            have f2 : (S.toList == [113, 117, 111, 116, 101]) = true := by rw [ba_tl, hSl, hA.2]; rfl
            have f2s : (sb == [113, 117, 111, 116, 101]) = true := by rw [hA.2]; rfl
            clear hA r3 hS hSl hSz
            go_wp2
            go_roundw
            case rel => exact ⟨k + 1, by simp, by omega, ⟨by repeat (first | exact HBL.out | apply below_alloc | apply Go.Proofs.YthfbkhjcnfjmmaaDoorW.PrintWords.pw_below_drewN)⟩⟩
            case measure => simp [intOf6]; omega
          · have r3 := r3.resolve_left hA
            have hB : (q : Int) + (S.size : Int) ≤ (s.size : Int) := by rw [hSz, show s.size = _ from HZ]; exact r3.1
            have hX : s.extract q (q + S.size) = S := by
              rw [hS]
              apply ba_eq
              rw [Go.Proofs.YthfbkhjcnfjmmaaDoor.LexC.ext_list, ← hS, show q + S.size - q = sb.length from by rw [hSz]; omega]
              have := r3.2
              rwa [Int.toNat_natCast] at this
            have hne : ch = 39 → (S.toList == [113, 117, 111, 116, 101]) = false := fun h => by
              rw [ba_tl, hSl]
              simp only [beq_eq_false_iff_ne]
              exact fun e => hA ⟨h, e⟩
            have d3 : decide ((s.size : Int) < (q : Int) + (S.size : Int)) = false := decide_eq_false (by omega)
            have d3' : decide (s.size < q + S.size) = false := decide_eq_false (by omega)
            have b2 : (q : Int) ≤ (q : Int) + (S.size : Int) := by omega
            have b4 : (0 : Int) ≤ (q : Int) + (S.size : Int) := by omega
            have w1 : IntKind.i64.wrap ((q : Int) + (S.size : Int)) = (q : Int) + (S.size : Int) := IntWalk.i64_in _ (by omega)
            have w2' : ((q : Int) + (S.size : Int)).toNat = q + S.size := by omega
            by_cases h39 : ch = 39
            · have f1 : (((ch.toNat : Nat) : Int) == 39) = true := by rw [h39]; rfl
              have f2 := hne h39
              have f2s : (sb == [113, 117, 111, 116, 101]) = false := by rw [← hSl, ← ba_tl]; exact f2
              clear hA r3 hS hSl hSz hne h39
              go_wp2
              go_quiet (fail)
              go_wp2
              go_roundw
              case rel => exact ⟨k + 1, by simp, by omega, ⟨by repeat (first | exact HBL.out | apply below_alloc | apply Go.Proofs.YthfbkhjcnfjmmaaDoorW.PrintWords.pw_below_drewN)⟩⟩
              case measure => simp [intOf6]; omega
            · have f1 : (((ch.toNat : Nat) : Int) == 39) = false := by
                have : ch.toNat ≠ 39 := fun e => h39 (UInt8.toNat_inj.1 e)
                simp; omega
              clear hA r3 hS hSl hSz hne h39
              go_wp2
              go_quiet (fail)
              go_wp2
              go_roundw
              case rel => exact ⟨k + 1, by simp, by omega, ⟨by repeat (first | exact HBL.out | apply below_alloc | apply Go.Proofs.YthfbkhjcnfjmmaaDoorW.PrintWords.pw_below_drewN)⟩⟩
              case measure => simp [intOf6]; omega
        · have r4 := r4 rfl
          clear r1 r2 r3 hS hSl hSz
          rcases r4 with h | h
          · have f1 : (((ch.toNat : Nat) : Int) != 40) = false := by rw [h]; rfl
            clear h
            go_wp2
            go_roundw
            case rel => exact ⟨k + 1, by simp, by omega, ⟨by repeat (first | exact HBL.out | apply below_alloc | apply Go.Proofs.YthfbkhjcnfjmmaaDoorW.PrintWords.pw_below_drewN)⟩⟩
            case measure => simp [intOf6]; omega
          · have f1 : (((ch.toNat : Nat) : Int) != 40) = true := by rw [h]; rfl
            have f2 : (((ch.toNat : Nat) : Int) != 39) = false := by rw [h]; rfl
            clear h
            go_wp2
            go_roundw
            case rel => exact ⟨k + 1, by simp, by omega, ⟨by repeat (first | exact HBL.out | apply below_alloc | apply Go.Proofs.YthfbkhjcnfjmmaaDoorW.PrintWords.pw_below_drewN)⟩⟩
            case measure => simp [intOf6]; omega
      · have e0 : decide ((k : Int) < (n : Int)) = false := decide_eq_false (by omega)
        have e0' : decide (k < n) = false := decide_eq_false hkl
        go_wp2_with fail
        go_ret
        exact ⟨rfl, below_then HB2.out HB2.out.size HBL.out⟩
theorem walkReadAt (s : ByteArray) (w : World) (hL : laidMetH Tryd.prog Rows.readAtRow.laid w) (_hs : s.size ≤ maxLen) :
    Calls Tryd.prog 7 #[.string s] w fun e w' => e = .returned (.bool true) ∧ Below w.heap.size w w' := by
  have hV := Go.Proofs.YthfbkhjcnfjmmaaDoor.LexC.vars_of hL (by kernel_rfl) (by kernel_rfl)
  by_cases h : 1000 < s.size
  · exact at_big s w hV h
  · exact at_small s w hV (by omega)
end Go.Proofs.YthfbkhjcnfjmmaaDoor.ReadM
