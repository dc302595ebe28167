import Derived.Test.YtioanppnkhiokaaRDig1
namespace Go.Proofs.Ytioanppnkhiokaa
open Go.RowKit

def PadA (w : World) (l : List UInt8) (j : Nat) (v : Value) (wr : World) : Prop := ∃ g c, v = .slice (some ⟨g, 0, none⟩) (l.length + 1 + j) c ∧
  wr.ownsRow w.heap.size 5 1 v (l.length + 1 + j) (bv (l ++ [128] ++ List.replicate j 0)) ∧ Below w.heap.size w wr
def PadB (w : World) (T : List UInt8) (x : UInt64) (j : Nat) (v : Value) (wr : World) : Prop := ∃ g c, v = .slice (some ⟨g, 0, none⟩) (T.length + j) c ∧
  wr.ownsRow w.heap.size 5 1 v (T.length + j) (bv (T ++ (Dig.bytes8 x).take j)) ∧ Below w.heap.size w wr
set_option maxRecDepth 100000 in
set_option maxHeartbeats 1000000 in
theorem rdig_Padded (l : List UInt8) (A : Option Addr) (n c : Nat) (w : World) (h : Bytes w w.heap.size A n c l) (hl : l.length ≤ 140737488355200) :
    Calls Try.prog 24 #[.slice A n c] w (PostB w (Dig.padded l)) := by
  have hlen := h.len
  subst hlen
  have hpd : Dig.padded l = l ++ [128] ++ List.replicate (Dig.noughts l.length) 0 ++ Dig.bytes8 (UInt64.ofNat l.length) := rfl
  replace hpd := Lib.hid hpd
  replace h := Lib.hid h
  have hl63 : l.length ≤ 9223372036854775807 := by omega
  go_enter Try.func24, Try.ntmps24
  go_wp2_with (first
    | (refine wpList_append_u8 rfl _ _ rfl w.heap.size _ 0 [] rfl (own_lit w #[] [] w.heap.size rfl (by simp [maxLen]) (Nat.le_refl _) rfl) w.heap.size _ _ _ l rfl (h.out.alloc (Nat.le_refl _) _) (by omega) (by simp) ?_
       intro A' c' w1 hown hbel
       have hs1 := hbel.size
       simp at hs1
       replace hbel := Lib.hid (((Below.refl w.heap.size w).alloc (Nat.le_refl _) _).trans hbel)
       rw [Nat.zero_add, List.nil_append] at *
       have hown := Lib.hid hown)
    | (refine wpList_append1_u8 rfl _ _ rfl w.heap.size _ l.length l rfl hown.out 128 128 rfl _ rfl (by simp) (by omega) (by omega) ?_
       intro g2 c2 w2 hown2 hg2 hbel2 hsz2
       replace hbel := Lib.hid (hbel.out.trans hbel2)
       clear hbel2 hown
       have hown := Lib.hid hown2
       clear hown2))
  have q0 := Dig.noughts_lt l.length
  go_loopw [3] (fun v wr => ∃ j, j ≤ Dig.noughts l.length ∧ PadA w l j v wr) (fun v _ => l.length + 100 - slen v)
  case atStart => exact ⟨0, Nat.zero_le _, g2, c2, rfl, by simpa using hown.out, hbel.out⟩
  case round =>
    obtain ⟨j, hj, g, cc, rfl, ho, hb⟩ := hrel
    clear hown hbel hsz2 hs1 hg2
    replace ho := Lib.hid ho
    have hbs := hb.size
    replace hb := Lib.hid hb
    by_cases hlt : j < Dig.noughts l.length
    · have hmod : (((l.length : Int) + 1 + (j : Int)) % 32 != 24) = true := by have := Dig.noughts_end l.length j hj; rw [bne_iff_ne]; omega
      have hlt2 : j + 1 ≤ Dig.noughts l.length := by omega
      go_wp2_with (refine wpList_append1_u8 rfl _ _ rfl w.heap.size _ (l.length + 1 + j) _ rfl ho.out 0 0 rfl _ rfl (by simp) (by omega) (by omega) ?_
                   intro g3 c3 w3 hown3 hg3 hbel3 hsz3
                   replace hb := Lib.hid (hb.out.trans hbel3)
                   clear hbel3 ho
                   have ho := Lib.hid hown3
                   clear hown3)
      go_roundw
      case rel =>
        refine ⟨j + 1, hlt2, g3, c3, rfl, ?_, hb.out⟩
        have := ho.out
        rw [List.append_assoc, ← List.replicate_succ'] at this
        exact this
      case measure => simp [slen]; omega
    · obtain rfl : j = Dig.noughts l.length := by omega
      have hmod : (((l.length : Int) + 1 + (Dig.noughts l.length : Int)) % 32 != 24) = false := by
        have := (Dig.noughts_end l.length (Dig.noughts l.length) hj).2 rfl
        rw [bne_eq_false_iff_eq]; omega
      have hTl : (l ++ [128] ++ List.replicate (Dig.noughts l.length) 0).length = l.length + 1 + Dig.noughts l.length := by simp; omega
      have hTb : l.length + 1 + Dig.noughts l.length ≤ 140737488355240 := by omega
      replace q0 := Lib.hid q0
      have hqe : IntKind.u64.wrap (l.length : Int) = l.length := by rw [Dig.wrap_u64]; omega
      go_wp2_with fail
      have hu : (l.length : Int) = Dig.v (UInt64.ofNat l.length) := by unfold Dig.v; simp; omega
      rw [hu]
      clear hu hqe
      rw [← hTl] at ho ⊢
      have hpd2 := hpd.out
      clear hpd q0 hmod hj hlt
      generalize l ++ [128] ++ List.replicate (Dig.noughts l.length) 0 = T at *
      generalize UInt64.ofNat l.length = x at *
      replace hpd2 := Lib.hid hpd2
      have hTb2 : T.length ≤ 140737488355240 := by omega
      have h8 := Dig.bytes8_length x
      clear hTl hTb
      go_loopw [3, 5] (fun v i wr => ∃ j : Nat, j ≤ 8 ∧ i = .int .i64 j ∧ PadB w T x j v wr) (fun _ i _ => 8 - (intOf i).toNat)
      case atStart => exact ⟨0, Nat.zero_le _, rfl, g, cc, rfl, by simpa using ho.out, hb.out⟩
      case round =>
        clear ho hb hbs
        obtain ⟨j, hj, rfl, g, cc, rfl, ho, hb⟩ := hrel
        have hbs := hb.size
        replace ho := Lib.hid ho
        replace hb := Lib.hid hb
        by_cases hlt : j < 8
        · have hby := Dig.shr_byte x j hlt
          replace hby := Lib.hid hby
          have htk := List.take_succ_eq_append_getElem (l := Dig.bytes8 x) (i := j) (by omega)
          replace htk := Lib.hid htk
          go_wp2_with (refine wpList_append1_u8 rfl _ _ rfl w.heap.size _ (T.length + j) _ rfl ho.out _ ((Dig.bytes8 x)[j]'(by omega)) hby.out _ rfl (by simp) (by omega) (by omega) ?_
                       intro g3 c3 w3 hown3 hg3 hbel3 hsz3
                       replace hb := Lib.hid (hb.out.trans hbel3)
                       clear hbel3 ho
                       have ho := Lib.hid hown3
                       clear hown3)
          refine ⟨⟨j + 1, by omega, by go_num, g3, c3, rfl, ?_, hb.out⟩, by simp [intOf]; omega⟩
          rw [htk.out, ← List.append_assoc]
          exact ho.out
        · obtain rfl : j = 8 := by omega
          go_wp2_with fail
          go_ret
          have := ho.out
          rw [List.take_of_length_le (by omega)] at this
          refine ⟨_, _, _, rfl, by rw [hpd2.out, List.length_append, h8], ?_, hb.out⟩
          rw [hpd2.out]
          exact this
end Go.Proofs.Ytioanppnkhiokaa
