import Derived.Test.YtjnbbgnecahgeaaLaw04
namespace Go.Proofs.Ytjnbbgnecahgeaa
open Go.RowKit

set_option maxHeartbeats 1000000 in
theorem law_NibblesKeys (key p : List UInt8) (A A' : Option Addr) (n n' c c' : Nat) (w : World) (K : Bytes w w.heap.size A n c key) (P : Bytes w w.heap.size A' n' c' p) (h1 : key.length ≤ 1048576) (h2 : p.length ≤ 1048576) :
    Calls Try.prog 7 #[.slice A n c, .slice A' n' c'] w (PostT w) := by
  go_enter Try.func7, Try.ntmps7
  have hB := Below.refl w.heap.size w
  go_wp2_with fail
  refine (nib_Key p A' n' c' _ _ P (Nat.le_refl _) (by omega)).mono ?_
  rintro e w1 ⟨A_X1, m_X1, c_X1, rfl, hn⟩; have s := hn.2.2; have X1 := hn.bytes; clear hn
  replace K := K.step s
  replace P := P.step s
  replace hB := hB.trans (s.mono hB.size)
  clear s
  go_wp2_with fail
  refine (rnib_Key p A' n' c' _ _ P (Nat.le_refl _) (by omega)).mono ?_
  rintro e w2 ⟨A_X2, m_X2, c_X2, rfl, hn⟩; have s := hn.2.2; have X2 := hn.bytes; clear hn
  replace K := K.step s
  replace P := P.step s
  replace X1 := X1.step s
  replace hB := hB.trans (s.mono hB.size)
  clear s
  go_wp2_with fail
  refine (law_alive _).mono ?_
  rintro e w3 ⟨rfl, s⟩
  replace K := K.step s
  replace P := P.step s
  replace X1 := X1.step s
  replace X2 := X2.step s
  replace hB := hB.trans (s.mono hB.size)
  clear s
  go_wp2_with fail
  refine (nib_Of key A n c _ _ K (Nat.le_refl _) (by omega)).mono ?_
  rintro e w4 ⟨g, rfl, ho, s⟩; have X3 : Bytes w4 w4.heap.size _ _ _ (Nib.of key) := ⟨by rw [Nib.of_length], Nat.le_refl _, by unfold maxLen; omega, Reads.of_own ho⟩; clear ho
  replace K := K.step s
  replace P := P.step s
  replace X1 := X1.step s
  replace X2 := X2.step s
  replace hB := hB.trans (s.mono hB.size)
  clear s
  go_wp2_with fail
  refine (rnib_Of key A n c _ _ K (Nat.le_refl _) (by omega)).mono ?_
  rintro e w5 ⟨A_X4, m_X4, c_X4, rfl, hn⟩; have s := hn.2.2; have X4 := hn.bytes; clear hn
  replace K := K.step s
  replace P := P.step s
  replace X1 := X1.step s
  replace X2 := X2.step s
  replace X3 := X3.step s
  replace hB := hB.trans (s.mono hB.size)
  clear s
  go_wp2_with fail
  refine (law_same _ _ _ _ _ _ _ _ _ _ _ X3 X4).mono ?_
  rintro e _ ⟨rfl, rfl⟩
  rw [decide_eq_true rfl]
  go_wp2_with fail
  refine (law_same _ _ _ _ _ _ _ _ _ _ _ X1 X2).mono ?_
  rintro e _ ⟨rfl, rfl⟩
  rw [decide_eq_true rfl]
  go_wp2_with fail
  refine (nib_Right p A' n' c' _ _ P).mono ?_
  rintro e _ ⟨rfl, rfl⟩
  go_wp2_with fail
  refine (rnib_Right p A' n' c' _ _ P).mono ?_
  rintro e _ ⟨rfl, rfl⟩
  go_wp2_with fail
  go_ret
  exact ⟨rfl, hB⟩

set_option maxHeartbeats 1000000 in
theorem law_NibblesPacks (p b : List UInt8) (leaf : Bool) (A A' : Option Addr) (n n' c c' : Nat) (w : World) (P : Bytes w w.heap.size A n c p) (D : Bytes w w.heap.size A' n' c' b) (h1 : p.length ≤ 1048576) (h2 : b.length ≤ 1048576) :
    Calls Try.prog 3 #[.slice A n c, .bool leaf, .slice A' n' c'] w (PostT w) := by
  go_enter Try.func3, Try.ntmps3
  have hB := Below.refl w.heap.size w
  go_wp2_with fail
  refine (nib_Pack p leaf A n c _ _ P (Nat.le_refl _) (by omega)).mono ?_
  rintro e w1 ⟨A_X1, m_X1, c_X1, rfl, hn⟩; have s := hn.2.2; have X1 := hn.bytes; clear hn
  replace P := P.step s
  replace D := D.step s
  replace hB := hB.trans (s.mono hB.size)
  clear s
  go_wp2_with fail
  refine (rnib_Pack p leaf A n c _ _ P (Nat.le_refl _) (by omega)).mono ?_
  rintro e w2 ⟨A_X2, m_X2, c_X2, rfl, hn⟩; have s := hn.2.2; have X2 := hn.bytes; clear hn
  replace P := P.step s
  replace D := D.step s
  replace X1 := X1.step s
  replace hB := hB.trans (s.mono hB.size)
  clear s
  go_wp2_with fail
  refine (nib_Unpack b A' n' c' _ _ D (Nat.le_refl _) (by omega)).mono ?_
  rintro e w3 ⟨A_X3, m_X3, c_X3, rfl, hn⟩; have s := hn.2.2; have X3 := hn.bytes; clear hn
  replace P := P.step s
  replace D := D.step s
  replace X1 := X1.step s
  replace X2 := X2.step s
  replace hB := hB.trans (s.mono hB.size)
  clear s
  go_wp2_with fail
  refine (rnib_Unpack b A' n' c' _ _ D (Nat.le_refl _) (by omega)).mono ?_
  rintro e w4 ⟨A_X4, m_X4, c_X4, rfl, hn⟩; have s := hn.2.2; have X4 := hn.bytes; clear hn
  replace P := P.step s
  replace D := D.step s
  replace X1 := X1.step s
  replace X2 := X2.step s
  replace X3 := X3.step s
  replace hB := hB.trans (s.mono hB.size)
  clear s
  go_wp2_with fail
  refine (law_alive _).mono ?_
  rintro e w5 ⟨rfl, s⟩
  replace P := P.step s
  replace D := D.step s
  replace X1 := X1.step s
  replace X2 := X2.step s
  replace X3 := X3.step s
  replace X4 := X4.step s
  replace hB := hB.trans (s.mono hB.size)
  clear s
  go_wp2_with fail
  refine (law_same _ _ _ _ _ _ _ _ _ _ _ X1 X2).mono ?_
  rintro e _ ⟨rfl, rfl⟩
  rw [decide_eq_true rfl]
  go_wp2_with fail
  refine (law_same _ _ _ _ _ _ _ _ _ _ _ X3 X4).mono ?_
  rintro e _ ⟨rfl, rfl⟩
  rw [decide_eq_true rfl]
  go_wp2_with fail
  go_ret
  exact ⟨rfl, hB⟩
end Go.Proofs.Ytjnbbgnecahgeaa
