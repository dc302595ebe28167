import Derived.Test.YtjnbbgnecahgeaaLaw04
import Derived.Test.YtjnbbgnecahgeaaMid
namespace Go.Proofs.Ytjnbbgnecahgeaa
open Go.RowKit

set_option maxHeartbeats 2000000 in
theorem law_NibblesMemory (b : List UInt8) (A : Option Addr) (n c : Nat) (w : World) (P : Bytes w w.heap.size A n c b) (h1 : b.length ≤ 1048576) :
    Calls Try.prog 4 #[.slice A n c] w (PostT w) := by
  have hlen := P.len
  subst hlen
  have hmx : b.length ≤ 9223372036854775807 := by omega
  go_enter Try.func4, Try.ntmps4
  go_wp2_with (at_builtin; refine wpList_append_u8 rfl _ _ rfl w.heap.size _ 0 [] rfl (World.ownsRow_nil _ _ _ _) w.heap.size A b.length c b rfl P (by omega) (Nat.le_refl _) ?_; intro A1 c1 w1 hown1 hb1)
  have O : Bytes w1 w1.heap.size A1 (0 + b.length) c1 b := ⟨by omega, (Own.of_row hown1).cap, (Own.of_row hown1).lim, by simpa using Reads.of_own hown1⟩
  rw [Nat.zero_add] at O
  have P1 := P.step hb1
  clear hown1 P
  refine (nib_Of b A1 b.length c1 _ _ O (Nat.le_refl _) (by omega)).mono ?_
  rintro e w2 ⟨g2, rfl, ho2, s2⟩
  have R2 := (Own.of_row ho2)
  have hg2 := ho2.lt g2 rfl
  clear ho2
  go_wp2_with fail
  refine (nib_Unpack b A1 b.length c1 w1.heap.size _ (O.below s2) s2.size (by omega)).mono ?_
  rintro e w3 ⟨A3, m3, c3, rfl, hm3, hown3, s3⟩
  have HM := Lib.hid hm3
  clear hm3
  have hm3x : m3 ≤ 2 * b.length := by rw [HM.out]; exact Nib.unpackL_le b
  have R2 := R2.below s3 (Nat.le_refl _)
  have hsz2 := s2.size
  have s23 := s2.trans (s3.mono s2.size)
  clear s2 s3
  -- the first loop
  go_wp2_with fail
  go_loopw [28] (fun i wr => ∃ k xs, k ≤ 2 * b.length ∧ i = .int .i64 (k : Nat) ∧ Below w1.heap.size w1 wr ∧ Own wr w2.heap.size 5 1 A3 m3 c3 (bv (Nib.unpackL b)) ∧ Own wr w1.heap.size 5 1 (some ⟨g2, 0, none⟩) (2 * b.length) (2 * b.length) xs) (fun i _ => 2 * b.length - (intOf i).toNat)
  case atStart => exact ⟨0, _, Nat.zero_le _, rfl, s23, hown3, R2⟩
  case round =>
    obtain ⟨k, xs, hk, rfl, hbr, hq, hp⟩ := hrel
    by_cases hlt : k < 2 * b.length
    · obtain ⟨g, o, hg, hBg, hgs, hc⟩ := hp.at_ (by omega)
      cases hg
      obtain ⟨⟨v, hv⟩, hf⟩ := hc k hlt
      have HP := Lib.hid (hp.stored k hlt (.int .u8 99))
      rw [Nat.zero_add] at hv hf HP
      have hlt' : (k : Int) < 2 * (b.length : Int) := by omega
      clear hc hp
      go_wp2_with fail
      refine ⟨⟨k + 1, _, by omega, by go_num, hbr.setCell hBg _, hq.far hg2.2 _, HP.out⟩, ?_⟩
      simp [intOf]; omega
    · have hlt' : ¬ ((k : Int) < 2 * (b.length : Int)) := by omega
      have hq := hq.less hsz2
      clear hp
      go_wp2_with fail
      obtain ⟨wo, rfl⟩ : ∃ wo : World, wo = wr := ⟨_, rfl⟩
      go_loopw [37] (fun i wr => ∃ k xs, k ≤ m3 ∧ i = .int .i64 (k : Nat) ∧ Below w1.heap.size w1 wr ∧ Own wr w1.heap.size 5 1 A3 m3 c3 xs) (fun i _ => m3 - (intOf i).toNat)
      case atStart => exact ⟨0, _, Nat.zero_le _, rfl, hbr, hq⟩
      case round =>
        obtain ⟨k2, xs2, hk2, rfl, hbr2, hq2⟩ := hrel
        by_cases hlt2 : k2 < m3
        · obtain ⟨g, o, rfl, hBg, hgs, hc⟩ := hq2.at_ (by omega)
          obtain ⟨⟨v, hv⟩, hf⟩ := hc k2 hlt2
          have HP := Lib.hid (hq2.stored k2 hlt2 (.int .u8 98))
          have hlt2' : (k2 : Int) < (m3 : Int) := by omega
          clear hc hq2
          go_wp2_with fail
          refine ⟨⟨k2 + 1, _, by omega, by go_num, hbr2.setCell hBg _, HP.out⟩, ?_⟩
          simp [intOf]; omega
        · have hlt2' : ¬ ((k2 : Int) < (m3 : Int)) := by omega
          have hsz1 := hbr2.size
          go_wp2_with (at_builtin; refine wpList_append1_mid rfl _ _ rfl w1.heap.size A3 m3 c3 xs2 rfl hq2 97 _ rfl rfl (by omega) hsz1 ?_; intro A4 c4 w5 hown5 hb5)
          replace hB5 := hbr2.trans hb5
          have O := (O.below hB5).more hB5.size
          have P := (P1.below hB5).more hB5.size
          clear hbr hbr2 hb5 hown5 hq2 hq
          replace hB := hb1.trans (hB5.mono hb1.size)
          clear hB5
          refine (nib_Unpack b A1 b.length c1 _ _ O (Nat.le_refl _) (by omega)).mono ?_
          rintro e w6 ⟨A_X1, m_X1, c_X1, rfl, hn⟩; have s := hn.2.2; have X1 := hn.bytes; clear hn
          replace O := O.step s
          replace P := P.step s
          replace hB := hB.trans (s.mono hB.size)
          clear s
          go_wp2_with fail
          refine (rnib_Unpack b A _ c _ _ P (Nat.le_refl _) (by omega)).mono ?_
          rintro e w7 ⟨A_X2, m_X2, c_X2, rfl, hn⟩; have s := hn.2.2; have X2 := hn.bytes; clear hn
          replace O := O.step s
          replace P := P.step s
          replace X1 := X1.step s
          replace hB := hB.trans (s.mono hB.size)
          clear s
          obtain rfl : m_X2 = m3 := X2.len.trans (HM.out.symm)
          go_wp2_with fail
          refine (law_alive _).mono ?_
          rintro e w8 ⟨rfl, s⟩
          replace O := O.step s
          replace P := P.step s
          replace X1 := X1.step s
          replace X2 := X2.step s
          replace hB := hB.trans (s.mono hB.size)
          clear s
          go_wp2_with fail
          refine (law_same _ _ _ _ _ _ _ _ _ _ _ O P).mono ?_
          rintro e _ ⟨rfl, rfl⟩
          rw [decide_eq_true rfl]
          go_wp2_with fail
          refine (nib_Of b A1 _ c1 _ _ O (Nat.le_refl _) (by omega)).mono ?_
          rintro e w9 ⟨g, rfl, ho, s⟩; have X3 : Bytes w9 w9.heap.size _ _ _ (Nib.of b) := ⟨by rw [Nib.of_length], Nat.le_refl _, by unfold maxLen; omega, Reads.of_own ho⟩; clear ho
          replace O := O.step s
          replace P := P.step s
          replace X1 := X1.step s
          replace X2 := X2.step s
          replace hB := hB.trans (s.mono hB.size)
          clear s
          go_wp2_with fail
          refine (rnib_Of b A _ c _ _ P (Nat.le_refl _) (by omega)).mono ?_
          rintro e w10 ⟨A_X4, m_X4, c_X4, rfl, hn⟩; have s := hn.2.2; have X4 := hn.bytes; clear hn
          replace O := O.step s
          replace P := P.step s
          replace X1 := X1.step s
          replace X2 := X2.step s
          replace X3 := X3.step s
          replace hB := hB.trans (s.mono hB.size)
          clear s
          go_wp2_with fail
          refine (law_same _ _ _ _ _ _ _ _ _ _ _ X3 X4).mono ?_
          rintro e _ ⟨rfl, rfl⟩
          rw [decide_eq_true rfl]
          go_wp2_with fail
          refine (law_same _ _ _ _ _ _ _ _ _ _ _ X1 X2).mono ?_
          rintro e _ ⟨rfl, rfl⟩
          rw [decide_eq_true rfl]
          go_wp2_with fail
          go_ret
          exact ⟨rfl, hB⟩
end Go.Proofs.Ytjnbbgnecahgeaa
