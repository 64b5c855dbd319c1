import Derived.Test.YthfbkhjcnfjmmaaDoorPReadsx2
import Derived.Test.YthfbkhjcnfjmmaaDoorReadP3
namespace Go.Proofs.YthfbkhjcnfjmmaaDoor.Pure
open Go Go.RowKit Go.Proofs.YthfbkhjcnfjmmaaDoor.PReads Go.Proofs.YthfbkhjcnfjmmaaDoor.LexP Go.Proofs.YthfbkhjcnfjmmaaDoor.ReadP Go.Proofs.YthfbkhjcnfjmmaaDoorW.PrintWords Go.Proofs.YthfbkhjcnfjmmaaDoorW.PrintLast
theorem w64 (x : Int) (h1 : -9223372036854775808 ≤ x) (h2 : x < 9223372036854775808) : wrap64 x = x := by unfold wrap64; omega
theorem i1 (i n : Nat) (h : i + n < 4294967296 * 2) : wrap64 ((i : Int) + (n : Int)) = ((i + n : Nat) : Int) := by rw [w64 _ (by omega) (by omega)]; omega
theorem rd_eq (l : List Int) (j : Nat) (hj : j < l.length) : rd l (j : Int) = l[j] := by
  unfold rd
  rw [Int.toNat_natCast, List.getD_eq_getElem?_getD, List.getElem?_eq_getElem hj]
  rfl
theorem ints_l0 (l : List Int) (hl : l.length < 1000000) : ∀ (d j k : Nat), d + j = l.length → d < k → eddywheelref06_Ints.l0 k l l (j : Int) = some true
  | _, _, 0, _, h => by omega
  | 0, j, k + 1, hd, _ => by
    unfold eddywheelref06_Ints.l0
    rw [if_neg (by omega)]
  | d + 1, j, k + 1, hd, hk => by
    unfold eddywheelref06_Ints.l0
    rw [if_pos (by omega), if_pos (by omega), if_pos (by omega), if_pos rfl, show wrap64 ((j : Int) + 1) = ((j + 1 : Nat) : Int) from i1 j 1 (by omega)]
    exact ints_l0 l hl d (j + 1) k (by omega) (by omega)
theorem ints_f (l : List Int) (k : Nat) (hl : l.length < 1000000) (hk : l.length < k) : eddywheelref06_Ints.f k l l = some true := by
  unfold eddywheelref06_Ints.f
  rw [if_pos rfl]
  exact ints_l0 l hl l.length 0 k (by omega) hk
theorem joins_l2 (c a : List S32) (z ys : List Int) (m : Nat) (hs : eddywheelref06_Same.f c a = some true) (hm : m < 100000) (hyl : ys.length < 100000) (hy : ∀ p ∈ ys, 0 ≤ p ∧ p < 100000) (hz : z.length < 1000000) : ∀ (d j k : Nat) (x : List Int), d + j = ys.length → d + 1000000 < k → z = x ++ (ys.drop j).map (fun p => p + (m : Int)) →
    eddywheellaw06_ReadJoins.l2 k true a x c z 0 (m : Int) ys (ys.length : Int) (j : Int) = some true
  | _, _, 0, _, _, h, _ => by omega
  | 0, j, k + 1, x, hd, hk, he => by
    unfold eddywheellaw06_ReadJoins.l2
    rw [List.drop_eq_nil_iff.2 (by omega), List.map_nil, List.append_nil] at he
    rw [if_neg (by omega), if_pos rfl, if_pos rfl, hs, Option.bind_some, if_pos rfl, he, ints_f x k (by rw [← he]; exact hz) (by rw [← he]; omega)]
    rfl
  | d + 1, j, k + 1, x, hd, hk, he => by
    unfold eddywheellaw06_ReadJoins.l2
    have hj : j < ys.length := by omega
    have hp := hy ys[j] (List.getElem_mem hj)
    have hx : x.length ≤ z.length := by rw [he, List.length_append]; omega
    rw [if_pos (by omega), if_pos (by omega), if_pos (by omega), if_pos (by omega), show wrap64 ((j : Int) + 1) = ((j + 1 : Nat) : Int) from i1 j 1 (by omega), rd_eq ys j hj, w64 (ys[j] + (m : Int)) (by omega) (by omega)]
    refine joins_l2 c a z ys m hs hm hyl hy hz d (j + 1) k _ (by omega) (by omega) ?_
    rw [he, List.drop_eq_getElem_cons hj, List.map_cons, List.append_assoc, List.singleton_append]
theorem joins_l1 (s : ByteArray) (a c b : List S32) (x y z L : List Int) (m : Nat) (bl bi f0 f1 f2 : Int) (f3 : ByteArray) (f4 : List Int) (hm : m < 100000) (hL : L.length < 100000) (hy : ∀ p ∈ L, 0 ≤ p ∧ p < 100000) : ∀ (d j k : Nat) (o : List Int), d + j = L.length → o.length + d < 1000000 →
    eddywheellaw06_ReadJoins.l1 (k + d) s true a x y c z 0 (m : Int) o b bl bi L (L.length : Int) (j : Int) f0 f1 f2 f3 f4 = eddywheellaw06_ReadJoins.l1 k s true a x y c z 0 (m : Int) (o ++ (L.drop j).map (fun p => p + (m : Int))) b bl bi L (L.length : Int) (L.length : Int) f0 f1 f2 f3 f4
  | 0, j, k, o, hd, _ => by
    rw [List.drop_eq_nil_iff.2 (by omega), List.map_nil, List.append_nil, show j = L.length from by omega, Nat.add_zero]
  | d + 1, j, k, o, hd, ho => by
    have hj : j < L.length := by omega
    have hp := hy L[j] (List.getElem_mem hj)
    rw [show k + (d + 1) = (k + d) + 1 from by omega]
    conv => lhs; unfold eddywheellaw06_ReadJoins.l1
    rw [if_pos (by omega), if_pos (by omega), if_pos (by omega), if_pos (by omega), show wrap64 ((j : Int) + 1) = ((j + 1 : Nat) : Int) from i1 j 1 (by omega), rd_eq L j hj, w64 (L[j] + (m : Int)) (by omega) (by omega),
      joins_l1 s a c b x y z L m bl bi f0 f1 f2 f3 f4 hm hL hy d (j + 1) k _ (by omega) (by simp; omega), List.drop_eq_getElem_cons hj, List.map_cons, List.append_assoc, List.singleton_append]
/-- a datum of the second text stands behind the first -/
def shR (d m : Nat) (x : S32) : S32 := ⟨x.f0, x.f1 + (d : Int), x.f2, x.f3, x.f4.map fun p => p + (m : Int)⟩
theorem joins_l0 (s : ByteArray) (hs : s.size ≤ 1000) (c b : List S32) (x y z : List Int) (m : Nat) (hm : m < 100000) (hb : b.length < 100000) (hB : ∀ n ∈ b, (0 ≤ n.f1 ∧ n.f1 < 100000) ∧ n.f4.length < 100000 ∧ ∀ p ∈ n.f4, 0 ≤ p ∧ p < 100000) (hy : y.length < 100000 ∧ ∀ p ∈ y, 0 ≤ p ∧ p < 100000) (hx : x.length < 100000) (hz : z = x ++ y.map fun p => p + (m : Int)) (A : List S32) (hA : A.length < 1000000) (hS : eddywheelref06_Same.f c A = some true) (W C : Nat) (hW : 100002 ≤ W) (hC : 2000000 ≤ C) :
    ∀ (d i k : Nat) (a : List S32), d + i = b.length → d * W + C < k → A = a ++ (b.drop i).map (shR (s.size + 1) m) →
    eddywheellaw06_ReadJoins.l0 k s true a x y c z 0 (m : Int) b (b.length : Int) (i : Int) = some true := by
  intro d
  induction d with
  | zero =>
    intro i k a hd hk he
    obtain ⟨k, rfl⟩ : ∃ j, k = j + 1 := ⟨k - 1, by omega⟩
    unfold eddywheellaw06_ReadJoins.l0
    rw [List.drop_eq_nil_iff.2 (by omega), List.map_nil, List.append_nil] at he
    rw [if_neg (by omega)]
    exact joins_l2 c a z y m (by rw [← he]; exact hS) hm hy.1 hy.2 (by rw [hz, List.length_append, List.length_map]; omega) y.length 0 k x (by omega) (by omega) (by rw [List.drop_zero]; exact hz)
  | succ d ih =>
    intro i k a hd hk he
    rw [Nat.succ_mul] at hk
    obtain ⟨k, rfl⟩ : ∃ j, k = j + 1 := ⟨k - 1, by omega⟩
    have hi : i < b.length := by omega
    obtain ⟨h1, h2, h3⟩ := hB b[i] (List.getElem_mem hi)
    have hr : rd_T32 b (i : Int) = b[i] := by
      unfold rd_T32
      rw [Int.toNat_natCast, List.getD_eq_getElem?_getD, List.getElem?_eq_getElem hi]
      rfl
    have ha : a.length ≤ A.length := by rw [he, List.length_append]; omega
    unfold eddywheellaw06_ReadJoins.l0
    rw [if_pos (by omega), if_pos (by omega), if_pos (by omega), hr, show wrap64 ((s.size : Int) + 1) = ((s.size + 1 : Nat) : Int) from i1 s.size 1 (by omega), w64 (b[i].f1 + ((s.size + 1 : Nat) : Int)) (by omega) (by omega)]
    obtain ⟨k', rfl⟩ : ∃ k', k = k' + 1 + b[i].f4.length := ⟨k - 1 - b[i].f4.length, by omega⟩
    rw [show (0 : Int) = ((0 : Nat) : Int) from rfl]
    have := joins_l1 s a c b x y z b[i].f4 m (b.length : Int) (i : Int) b[i].f0 (b[i].f1 + ((s.size + 1 : Nat) : Int)) b[i].f2 b[i].f3 b[i].f4 hm h2 h3 b[i].f4.length 0 (k' + 1) [] (by omega) (by simp; omega)
    refine this.trans ?_
    unfold eddywheellaw06_ReadJoins.l1
    rw [if_neg (by omega), if_pos (by omega), show wrap64 ((i : Int) + 1) = ((i + 1 : Nat) : Int) from i1 i 1 (by omega), List.drop_zero, List.nil_append]
    refine ih (i + 1) k' _ (by omega) (by omega) ?_
    rw [he, List.drop_eq_getElem_cons hi, List.map_cons, List.append_assoc, List.singleton_append]
    rfl
theorem of_to (x : Nd) : ofN (toN x) = x := by
  unfold ofN toN
  cases x; simp
theorem join_list (s t : ByteArray) : ((s ++ (⟨#[10]⟩ : ByteArray)) ++ t).data.toList = s.data.toList ++ 10 :: t.data.toList := by simp
theorem ReadJoins (s t : ByteArray) : ∃ k, eddywheellaw06_ReadJoins.f k s t = some true := by
  refine ⟨2000000000, ?_⟩
  generalize hK : (2000000000 : Nat) = K
  unfold eddywheellaw06_ReadJoins.f
  rw [show eddywheellaw06_shown.f = some true from rfl, Option.bind_some]
  obtain ⟨K, rfl⟩ : ∃ j, K = j + 1 := ⟨K - 1, by omega⟩
  split
  · rw [eddywheellaw06_ReadJoins.j0, if_pos rfl]
  rename_i hs
  rw [eddywheellaw06_ReadJoins.j0]
  by_cases ht : (t.size : Int) > 1000
  · rw [if_pos (by simpa using ht)]
  rw [if_neg (by simpa using ht)]
  have zs := Lib.size_eq s
  have zt := Lib.size_eq t
  have z1 : (⟨#[10]⟩ : ByteArray).size = 1 := rfl
  unfold read_Read.f
  cases h1 : readF s.data.toList with
  | error e =>
    obtain ⟨i, e⟩ := e
    have he := readF_err h1
    cases h2 : readF t.data.toList with
    | error e2 =>
      simp only [Option.bind_some]
      rw [if_neg he]
    | ok q =>
      simp only [Option.bind_some]
      rw [if_neg he]
  | ok q =>
    obtain ⟨ra, ta⟩ := q
    have hj := read_joins s.data.toList t.data.toList (by omega) (by omega) h1
    have o1 := read_ok h1
    have l1 := read_lo h1
    cases h2 : readF t.data.toList with
    | error e =>
      obtain ⟨i, e⟩ := e
      have he := readF_err h2
      have hp := readF_pos h2
      rw [h2] at hj
      simp only [Option.bind_some, join_list, hj]
      rw [if_pos (by simp), if_pos (by omega), if_pos (by simp [ByteArray.size_append]; omega), if_neg he, if_pos (by simp), if_pos (by simp), w64 (i + (s.size : Int)) (by omega) (by omega), w64 (i + (s.size : Int) + 1) (by omega) (by omega)]
      congr 1
      simp
      omega
    | ok q =>
      obtain ⟨rb, tb⟩ := q
      have o2 := read_ok h2
      have l2 := read_lo h2
      rw [h2] at hj
      simp only [Option.bind_some, join_list, hj]
      rw [if_pos (by simp), if_pos (by omega), if_pos (by simp [ByteArray.size_append]; omega), if_pos (by simp), List.length_map]
      have hN : ∀ x ∈ rb, x.l.length < 100000 ∧ ∀ p ∈ x.l, 0 ≤ p ∧ p < 100000 := fun x hx => by
        have := l2.1 x hx
        have h3 := this.1
        exact ⟨by omega, fun p hp => by have := this.2 p hp; omega⟩
      have e2 := l2.2.1
      have e1 := l1.2.1
      refine joins_l0 s (by omega) _ (rb.map toN) ta tb _ ra.length (by omega) (by rw [List.length_map]; omega) (fun n hn => ?_) ⟨by omega, fun p hp => by have := l2.2.2 p hp; omega⟩ (by omega) rfl (ra.map toN ++ (rb.map toN).map (shR (s.size + 1) ra.length)) (by simp; omega) ?_ 100002 2000000 (Nat.le_refl _) (Nat.le_refl _) rb.length 0 K (ra.map toN) (by simp) (by omega) (by rw [List.drop_zero])
      · obtain ⟨x, hx, rfl⟩ := List.mem_map.1 hn
        have := (o2.1 x hx).2
        have a1 := this.1
        have a2 := this.2.1
        have := hN x hx
        exact ⟨⟨a1, by show x.pos < _; omega⟩, this⟩
      · unfold eddywheelref06_Same.f
        rw [if_pos]
        refine ⟨?_, by simp; omega, fun x hx => ?_⟩
        · simp only [List.map_append, List.map_map]
          have ht : ofN ∘ toN = id := funext of_to
          rw [ht, List.map_id]
          congr 1
        · obtain ⟨y, hy, rfl⟩ := List.mem_map.1 hx
          show y.l.length ≤ _
          rcases List.mem_append.1 hy with hy | hy
          · have := (l1.1 y hy).1
            omega
          · obtain ⟨u, hu, rfl⟩ := List.mem_map.1 hy
            have := (hN u hu).1
            unfold shN
            rw [List.length_map]
            omega
end Go.Proofs.YthfbkhjcnfjmmaaDoor.Pure
