import Derived.Test.YtjnbbgnecahgeaaLaw04
namespace Go.Proofs.Ytjnbbgnecahgeaa
open Go.RowKit

namespace Nib
theorem hi_join (a b : UInt8) (ha : a.toNat ≤ 15) (hb : b.toNat ≤ 15) : hi (UInt8.ofNat (16 * a.toNat + b.toNat)) = a := by
  apply UInt8.toNat_inj.1
  rw [hi_toNat]
  simp; omega
theorem lo_join (a b : UInt8) (ha : a.toNat ≤ 15) (hb : b.toNat ≤ 15) : lo (UInt8.ofNat (16 * a.toNat + b.toNat)) = b := by
  apply UInt8.toNat_inj.1
  rw [lo_toNat]
  simp; omega
theorem right_cons (a : UInt8) (l : List UInt8) : right (a :: l) = true ↔ a.toNat ≤ 15 ∧ right l = true := by
  simp [right, UInt8.le_iff_toNat_le]
theorem of_join : ∀ (l : List UInt8), right l = true → l.length % 2 = 0 → of (join l) = l
  | [], _, _ => rfl
  | [_], _, h => by simp at h
  | a :: b :: r, hr, h => by
    rw [right_cons, right_cons] at hr
    have := of_join r hr.2.2 (by simp only [List.length_cons] at h; omega)
    simp only [join, of, List.flatMap_cons, List.cons_append, List.nil_append] at this ⊢
    rw [hi_join a b hr.1 hr.2.1, lo_join a b hr.1 hr.2.1, this]
theorem head_even (p : List UInt8) (leaf : Bool) : (head p.length leaf ++ p).length % 2 = 0 := by
  rw [List.length_append, head_length]; omega
theorem unpack_pack (p : List UInt8) (leaf : Bool) (h : right p = true) : unpack (join (head p.length leaf ++ p)) = some (p, leaf) := by
  unfold unpack
  rw [of_join _ (by rw [right_append, head_right, h]; rfl) (head_even p leaf)]
  by_cases hp : p.length % 2 = 1
  · obtain ⟨x, r, rfl⟩ : ∃ x r, p = x :: r := by
      cases p with
      | nil => simp at hp
      | cons x r => exact ⟨x, r, rfl⟩
    rw [show head (x :: r).length leaf = [if leaf then 3 else 1] by unfold head; rw [if_pos hp]]
    cases leaf <;> simp
  · rw [show head p.length leaf = [if leaf then 2 else 0, 0] by unfold head; rw [if_neg hp]]
    cases leaf <;> simp
theorem pack_length (p : List UInt8) (leaf : Bool) (h : right p = true) : ((pack p leaf).getD []).length = p.length / 2 + 1 := by
  simp only [pack, h, if_true, Option.getD_some, join_length, List.length_append, head_length]; omega
theorem of_key (p : List UInt8) (h : (key p).isSome = true) : of ((key p).getD []) = p := by
  unfold key at h ⊢
  split
  · rename_i hc
    exact of_join p hc.1 hc.2
  · rename_i hc
    rw [if_neg hc] at h
    simp at h
theorem key_some (p : List UInt8) (h : right p = true) : (key p).isSome = decide (p.length % 2 = 0) := by
  unfold key
  by_cases hp : p.length % 2 = 0
  · simp [h, hp]
  · simp [hp]
theorem key_len (p : List UInt8) : 2 * ((key p).getD []).length ≤ p.length := by
  unfold key
  split
  · simp only [Option.getD_some, join_length]; omega
  · simp
end Nib

set_option maxHeartbeats 2000000 in
theorem law_NibblesBack (p : List UInt8) (leaf : Bool) (A : Option Addr) (n c : Nat) (w : World) (P : Bytes w w.heap.size A n c p) (h1 : p.length ≤ 140737488351232) :
    Calls Try.prog 8 #[.slice A n c, .bool leaf] w (PostT w) := by
  have hlen := P.len
  subst hlen
  by_cases hr : Nib.right p = true
  · have HL := Lib.hid (Nib.pack_length p leaf hr)
    have HR := Lib.hid hr
    have HE := Lib.hid (show Nib.packE p = 0 by simp [Nib.packE, hr])
    have HP := Lib.hid (show Nib.unpack ((Nib.pack p leaf).getD []) = some (p, leaf) by simp only [Nib.pack, hr, if_true, Option.getD_some]; exact Nib.unpack_pack p leaf hr)
    have HK := Lib.hid (Nib.key_some p hr)
    have HO := Lib.hid (Nib.of_key p)
    have HKL := Lib.hid (Nib.key_len p)
    clear hr
    by_cases hp : p.length % 2 = 0
    · have hz : ((p.length : Int) % 2 == 0) = true := by rw [beq_iff_eq]; omega
      have HK := Lib.hid (show (Nib.key p).isSome = true by rw [HK.out, decide_eq_true hp])
      clear hp
      go_enter Try.func8, Try.ntmps8
      have hB := Below.refl w.heap.size w
      go_wp2_with fail
      refine (nib_Pack p leaf A _ c _ _ P (Nat.le_refl _) (by omega)).mono ?_
      rw [HE.out]
      rintro e w1 ⟨A_X1, m_X1, c_X1, rfl, hn⟩; have s := hn.2.2; have X1 := hn.bytes; clear hn
      replace P := P.step s
      replace hB := hB.trans (s.mono hB.size)
      clear s
      obtain rfl : m_X1 = p.length / 2 + 1 := X1.len.trans (HL.out)
      go_wp2_with fail
      refine (rnib_Right p A _ c _ _ P).mono ?_
      rintro e _ ⟨rfl, rfl⟩
      rw [HR.out]
      go_wp2_with fail
      refine (nib_Unpack _ _ _ _ _ _ X1 (Nat.le_refl _) (by rw [HL.out]; omega)).mono ?_
      rw [show Nib.unpackL ((Nib.pack p leaf).getD []) = p by simp [Nib.unpackL, HP.out], show Nib.unpackB ((Nib.pack p leaf).getD []) = leaf by simp [Nib.unpackB, HP.out], show Nib.unpackE ((Nib.pack p leaf).getD []) = 0 by simp [Nib.unpackE, HP.out]]
      rintro e w2 ⟨A_X2, m_X2, c_X2, rfl, hn⟩; have s := hn.2.2; have X2 := hn.bytes; clear hn
      replace P := P.step s
      replace X1 := X1.step s
      replace hB := hB.trans (s.mono hB.size)
      clear s
      go_wp2_with fail
      refine (nib_Key p A _ c _ _ P (Nat.le_refl _) (by omega)).mono ?_
      rw [HK.out]
      rintro e w3 ⟨A_X3, m_X3, c_X3, rfl, hn⟩; have s := hn.2.2; have X3 := hn.bytes; clear hn
      replace P := P.step s
      replace X1 := X1.step s
      replace X2 := X2.step s
      replace hB := hB.trans (s.mono hB.size)
      clear s
      go_wp2_with fail
      refine (law_alive _).mono ?_
      rintro e w4 ⟨rfl, s⟩
      replace P := P.step s
      replace X1 := X1.step s
      replace X2 := X2.step s
      replace X3 := X3.step s
      replace hB := hB.trans (s.mono hB.size)
      clear s
      go_wp2_with fail
      refine (law_same _ _ _ _ _ _ _ _ _ _ _ X2 P).mono ?_
      rintro e _ ⟨rfl, rfl⟩
      rw [decide_eq_true rfl]
      go_wp2_with fail
      refine (nib_Of _ _ _ _ _ _ X3 (Nat.le_refl _) (by have := HKL.out; omega)).mono ?_
      rintro e w5 ⟨g, rfl, ho, s⟩; have X4 : Bytes w5 w5.heap.size _ _ _ _ := ⟨by rw [Nib.of_length], Nat.le_refl _, by unfold maxLen; have := HKL.out; omega, Reads.of_own ho⟩; clear ho; rw [HO.out HK.out] at X4
      replace P := P.step s
      replace X1 := X1.step s
      replace X2 := X2.step s
      replace X3 := X3.step s
      replace hB := hB.trans (s.mono hB.size)
      clear s
      go_wp2_with fail
      refine (law_same _ _ _ _ _ _ _ _ _ _ _ X4 P).mono ?_
      rintro e _ ⟨rfl, rfl⟩
      rw [decide_eq_true rfl]
      go_wp2_with fail
      go_ret
      exact ⟨rfl, hB⟩
    · have hz : ((p.length : Int) % 2 == 0) = false := beq_eq_false_iff_ne.2 (by omega)
      have HK := Lib.hid (show (Nib.key p).isSome = false by rw [HK.out, decide_eq_false hp])
      clear hp
      go_enter Try.func8, Try.ntmps8
      have hB := Below.refl w.heap.size w
      go_wp2_with fail
      refine (nib_Pack p leaf A _ c _ _ P (Nat.le_refl _) (by omega)).mono ?_
      rw [HE.out]
      rintro e w1 ⟨A_X1, m_X1, c_X1, rfl, hn⟩; have s := hn.2.2; have X1 := hn.bytes; clear hn
      replace P := P.step s
      replace hB := hB.trans (s.mono hB.size)
      clear s
      obtain rfl : m_X1 = p.length / 2 + 1 := X1.len.trans (HL.out)
      go_wp2_with fail
      refine (rnib_Right p A _ c _ _ P).mono ?_
      rintro e _ ⟨rfl, rfl⟩
      rw [HR.out]
      go_wp2_with fail
      refine (nib_Unpack _ _ _ _ _ _ X1 (Nat.le_refl _) (by rw [HL.out]; omega)).mono ?_
      rw [show Nib.unpackL ((Nib.pack p leaf).getD []) = p by simp [Nib.unpackL, HP.out], show Nib.unpackB ((Nib.pack p leaf).getD []) = leaf by simp [Nib.unpackB, HP.out], show Nib.unpackE ((Nib.pack p leaf).getD []) = 0 by simp [Nib.unpackE, HP.out]]
      rintro e w2 ⟨A_X2, m_X2, c_X2, rfl, hn⟩; have s := hn.2.2; have X2 := hn.bytes; clear hn
      replace P := P.step s
      replace X1 := X1.step s
      replace hB := hB.trans (s.mono hB.size)
      clear s
      go_wp2_with fail
      refine (nib_Key p A _ c _ _ P (Nat.le_refl _) (by omega)).mono ?_
      rw [HK.out]
      rintro e w3 ⟨A_X3, m_X3, c_X3, rfl, hn⟩; have s := hn.2.2; have X3 := hn.bytes; clear hn
      replace P := P.step s
      replace X1 := X1.step s
      replace X2 := X2.step s
      replace hB := hB.trans (s.mono hB.size)
      clear s
      go_wp2_with fail
      refine (law_alive _).mono ?_
      rintro e w4 ⟨rfl, s⟩
      replace P := P.step s
      replace X1 := X1.step s
      replace X2 := X2.step s
      replace X3 := X3.step s
      replace hB := hB.trans (s.mono hB.size)
      clear s
      go_wp2_with fail
      refine (law_same _ _ _ _ _ _ _ _ _ _ _ X2 P).mono ?_
      rintro e _ ⟨rfl, rfl⟩
      rw [decide_eq_true rfl]
      go_wp2_with fail
      go_ret
      exact ⟨rfl, hB⟩
  · have HR := Lib.hid (Bool.not_eq_true _ ▸ hr : Nib.right p = false)
    have HE := Lib.hid (show Nib.packE p = 40 by simp [Nib.packE, hr])
    have HP := Lib.hid (show (Nib.pack p leaf).getD [] = [] by simp [Nib.pack, hr])
    have HK := Lib.hid (show Nib.key p = none by simp [Nib.key, hr])
    clear hr
    go_enter Try.func8, Try.ntmps8
    have hB := Below.refl w.heap.size w
    go_wp2_with fail
    refine (nib_Pack p leaf A _ c _ _ P (Nat.le_refl _) (by omega)).mono ?_
    rw [HE.out, HP.out]
    rintro e w1 ⟨A_X1, m_X1, c_X1, rfl, hn⟩; have s := hn.2.2; have X1 := hn.bytes; clear hn
    replace P := P.step s
    replace hB := hB.trans (s.mono hB.size)
    clear s
    obtain rfl : m_X1 = 0 := X1.len.trans (rfl)
    go_wp2_with fail
    refine (rnib_Right p A _ c _ _ P).mono ?_
    rintro e _ ⟨rfl, rfl⟩
    rw [HR.out]
    go_wp2_with fail
    refine (nib_Key p A _ c _ _ P (Nat.le_refl _) (by omega)).mono ?_
    rw [HK.out]
    rintro e w2 ⟨A_X3, m_X3, c_X3, rfl, hn⟩; have s := hn.2.2; have X3 := hn.bytes; clear hn
    replace P := P.step s
    replace X1 := X1.step s
    replace hB := hB.trans (s.mono hB.size)
    clear s
    go_wp2_with fail
    refine (law_alive _).mono ?_
    rintro e w3 ⟨rfl, s⟩
    replace P := P.step s
    replace X1 := X1.step s
    replace X3 := X3.step s
    replace hB := hB.trans (s.mono hB.size)
    clear s
    go_wp2_with fail
    refine (nib_Right p A _ c _ _ P).mono ?_
    rintro e _ ⟨rfl, rfl⟩
    rw [HR.out]
    go_wp2_with fail
    go_ret
    exact ⟨rfl, hB⟩

namespace Nib
theorem of_right : ∀ l : List UInt8, right (of l) = true
  | [] => rfl
  | a :: l => by
    have := of_right l
    have h1 := hi_toNat a
    have h2 := lo_toNat a
    have := a.toNat_lt
    unfold of at *
    simp only [List.flatMap_cons, List.cons_append, List.nil_append]
    rw [right_cons, right_cons]
    exact ⟨by omega, by omega, by assumption⟩
theorem join_of : ∀ l : List UInt8, join (of l) = l
  | [] => rfl
  | a :: l => by
    have := join_of l
    unfold of at *
    simp only [List.flatMap_cons, List.cons_append, List.nil_append, join, this]
    congr 1
    apply UInt8.toNat_inj.1
    have := a.toNat_lt
    rw [hi_toNat, lo_toNat]
    simp; omega
theorem key_of (l : List UInt8) : key (of l) = some l := by
  unfold key
  rw [if_pos ⟨of_right l, by rw [of_length]; omega⟩, join_of]
theorem byte4 (f : UInt8) (h : f.toNat ≤ 3) : f = 0 ∨ f = 1 ∨ f = 2 ∨ f = 3 := by
  have : f.toNat = 0 ∨ f.toNat = 1 ∨ f.toNat = 2 ∨ f.toNat = 3 := by omega
  rcases this with h | h | h | h
  · exact .inl (UInt8.toNat_inj.1 h)
  · exact .inr (.inl (UInt8.toNat_inj.1 h))
  · exact .inr (.inr (.inl (UInt8.toNat_inj.1 h)))
  · exact .inr (.inr (.inr (UInt8.toNat_inj.1 h)))
/-- what is unpacked is packed as the same bytes -/
theorem pack_unpack (b q : List UInt8) (leaf : Bool) (h : unpack b = some (q, leaf)) : pack q leaf = some b ∧ right q = true ∧ q.length + 1 ≤ 2 * b.length := by
  have hr := of_right b
  have hj := join_of b
  have hl := of_length b
  unfold unpack at h
  rcases hof : of b with _ | ⟨f, _ | ⟨z, R⟩⟩
  · rw [hof] at h; simp at h
  · rw [hof] at h; simp at h
  · rw [hof] at h hr hj hl
    simp only at h
    rw [right_cons, right_cons] at hr
    simp only [List.length_cons] at hl
    by_cases h3 : 3 < f.toNat
    · rw [if_pos h3] at h; simp at h
    · rw [if_neg h3] at h
      by_cases ho : f.toNat % 2 = 1
      · rw [if_pos ho] at h
        simp only [Option.some.injEq, Prod.mk.injEq] at h
        obtain ⟨rfl, rfl⟩ := h
        have hrq : right (z :: R) = true := (right_cons _ _).2 ⟨hr.2.1, hr.2.2⟩
        refine ⟨?_, hrq, by simp only [List.length_cons]; omega⟩
        unfold pack
        rw [if_pos hrq]
        have hh : head (z :: R).length (decide (2 ≤ f.toNat)) = [f] := by
          unfold head
          rw [if_pos (by simp only [List.length_cons]; omega)]
          rcases byte4 f (by omega) with rfl | rfl | rfl | rfl <;> simp_all
        rw [hh]
        exact congrArg some hj
      · rw [if_neg ho] at h
        by_cases hz : z.toNat ≠ 0
        · rw [if_pos hz] at h; simp at h
        · rw [if_neg hz] at h
          simp only [Option.some.injEq, Prod.mk.injEq] at h
          obtain ⟨rfl, rfl⟩ := h
          have hz0 : z = 0 := UInt8.toNat_inj.1 (by simpa using hz)
          refine ⟨?_, hr.2.2, by omega⟩
          unfold pack
          rw [if_pos hr.2.2]
          have hh : head R.length (decide (2 ≤ f.toNat)) = [f, z] := by
            unfold head
            rw [if_neg (by omega), hz0]
            rcases byte4 f (by omega) with rfl | rfl | rfl | rfl <;> simp_all
          rw [hh]
          exact congrArg some hj
end Nib

set_option maxHeartbeats 2000000 in
theorem law_NibblesOnly (b : List UInt8) (A : Option Addr) (n c : Nat) (w : World) (P : Bytes w w.heap.size A n c b) (h1 : b.length ≤ 1048576) :
    Calls Try.prog 9 #[.slice A n c] w (PostT w) := by
  have hlen := P.len
  subst hlen
  have HL := Lib.hid (Nib.of_length b)
  have HR := Lib.hid (Nib.of_right b)
  have HK := Lib.hid (Nib.key_of b)
  rcases hu : Nib.unpack b with _ | ⟨q, leaf⟩
  · have HU := Lib.hid hu
    clear hu
    go_enter Try.func9, Try.ntmps9
    have hB := Below.refl w.heap.size w
    go_wp2_with fail
    refine (nib_Of b A _ c _ _ P (Nat.le_refl _) (by omega)).mono ?_
    rintro e w1 ⟨g, rfl, ho, s⟩; have X1 : Bytes w1 w1.heap.size _ _ _ (Nib.of b) := ⟨by rw [Nib.of_length], Nat.le_refl _, by unfold maxLen; omega, Reads.of_own ho⟩; clear ho
    replace P := P.step s
    replace hB := hB.trans (s.mono hB.size)
    clear s
    go_wp2_with fail
    refine (nib_Key (Nib.of b) _ _ _ _ _ X1 (Nat.le_refl _) (by rw [HL.out]; omega)).mono ?_
    rw [HK.out]
    rintro e w2 ⟨A_X2, m_X2, c_X2, rfl, hn⟩; have s := hn.2.2; have X2 := hn.bytes; clear hn
    replace P := P.step s
    replace X1 := X1.step s
    replace hB := hB.trans (s.mono hB.size)
    clear s
    go_wp2_with fail
    refine (law_alive _).mono ?_
    rintro e w3 ⟨rfl, s⟩
    replace P := P.step s
    replace X1 := X1.step s
    replace X2 := X2.step s
    replace hB := hB.trans (s.mono hB.size)
    clear s
    go_wp2_with fail
    refine (law_same _ _ _ _ _ _ _ _ _ _ _ X2 P).mono ?_
    rintro e _ ⟨rfl, rfl⟩
    rw [decide_eq_true (by rfl)]
    go_wp2_with fail
    refine (nib_Right (Nib.of b) _ _ _ _ _ X1).mono ?_
    rintro e _ ⟨rfl, rfl⟩
    rw [HR.out]
    go_wp2_with fail
    refine (nib_Unpack b A _ c _ _ P (Nat.le_refl _) (by omega)).mono ?_
    rw [show Nib.unpackL b = [] by simp [Nib.unpackL, HU.out], show Nib.unpackB b = false by simp [Nib.unpackB, HU.out], show Nib.unpackE b = 40 by simp [Nib.unpackE, HU.out]]
    rintro e w4 ⟨A_X3, m_X3, c_X3, rfl, hn⟩; have s := hn.2.2; have X3 := hn.bytes; clear hn
    replace P := P.step s
    replace X1 := X1.step s
    replace X2 := X2.step s
    replace hB := hB.trans (s.mono hB.size)
    clear s
    obtain rfl : m_X3 = 0 := X3.len.trans (rfl)
    go_wp2_with fail
    go_ret
    exact ⟨rfl, hB⟩
  · have HU := Lib.hid hu
    have HQ := Lib.hid (Nib.pack_unpack b q leaf hu)
    clear hu
    go_enter Try.func9, Try.ntmps9
    have hB := Below.refl w.heap.size w
    go_wp2_with fail
    refine (nib_Of b A _ c _ _ P (Nat.le_refl _) (by omega)).mono ?_
    rintro e w1 ⟨g, rfl, ho, s⟩; have X1 : Bytes w1 w1.heap.size _ _ _ (Nib.of b) := ⟨by rw [Nib.of_length], Nat.le_refl _, by unfold maxLen; omega, Reads.of_own ho⟩; clear ho
    replace P := P.step s
    replace hB := hB.trans (s.mono hB.size)
    clear s
    go_wp2_with fail
    refine (nib_Key (Nib.of b) _ _ _ _ _ X1 (Nat.le_refl _) (by rw [HL.out]; omega)).mono ?_
    rw [HK.out]
    rintro e w2 ⟨A_X2, m_X2, c_X2, rfl, hn⟩; have s := hn.2.2; have X2 := hn.bytes; clear hn
    replace P := P.step s
    replace X1 := X1.step s
    replace hB := hB.trans (s.mono hB.size)
    clear s
    go_wp2_with fail
    refine (law_alive _).mono ?_
    rintro e w3 ⟨rfl, s⟩
    replace P := P.step s
    replace X1 := X1.step s
    replace X2 := X2.step s
    replace hB := hB.trans (s.mono hB.size)
    clear s
    go_wp2_with fail
    refine (law_same _ _ _ _ _ _ _ _ _ _ _ X2 P).mono ?_
    rintro e _ ⟨rfl, rfl⟩
    rw [decide_eq_true (by rfl)]
    go_wp2_with fail
    refine (nib_Right (Nib.of b) _ _ _ _ _ X1).mono ?_
    rintro e _ ⟨rfl, rfl⟩
    rw [HR.out]
    go_wp2_with fail
    refine (nib_Unpack b A _ c _ _ P (Nat.le_refl _) (by omega)).mono ?_
    rw [show Nib.unpackL b = q by simp [Nib.unpackL, HU.out], show Nib.unpackB b = leaf by simp [Nib.unpackB, HU.out], show Nib.unpackE b = 0 by simp [Nib.unpackE, HU.out]]
    rintro e w4 ⟨A_X3, m_X3, c_X3, rfl, hn⟩; have s := hn.2.2; have X3 := hn.bytes; clear hn
    replace P := P.step s
    replace X1 := X1.step s
    replace X2 := X2.step s
    replace hB := hB.trans (s.mono hB.size)
    clear s
    go_wp2_with fail
    refine (nib_Pack q leaf _ _ _ _ _ X3 (Nat.le_refl _) (by have := HQ.out.2.2; omega)).mono ?_
    rw [HQ.out.1, show Nib.packE q = 0 by simp [Nib.packE, HQ.out.2.1]]
    rintro e w5 ⟨A_X4, m_X4, c_X4, rfl, hn⟩; have s := hn.2.2; have X4 := hn.bytes; clear hn
    replace P := P.step s
    replace X1 := X1.step s
    replace X2 := X2.step s
    replace X3 := X3.step s
    replace hB := hB.trans (s.mono hB.size)
    clear s
    go_wp2_with fail
    refine (law_same _ _ _ _ _ _ _ _ _ _ _ X4 P).mono ?_
    rintro e _ ⟨rfl, rfl⟩
    rw [decide_eq_true (by rfl)]
    go_wp2_with fail
    go_ret
    exact ⟨rfl, hB⟩
end Go.Proofs.Ytjnbbgnecahgeaa
