/-
  pergolaref03: Bytes, Read.
-/
import Derived.Test.YtcpnfllekpekgaaWo1
import Derived.Test.YtcpnfllekpekgaaReg
namespace Go.Proofs.Ytcpnfllekpekgaa
open Go.RowKit

theorem NewB.own {w w1 : World} {A : Option Addr} {m c : Nat} {l : List UInt8} (h : NewB w w1 A m c l) : w1.ownsRow w.heap.size 5 1 (.slice A m c) m (bv l) := h.2.1
theorem NewB.of_own {w w1 : World} {A : Option Addr} {m c : Nat} {l : List UInt8} (hl : m = l.length) (ho : w1.ownsRow w.heap.size 5 1 (.slice A m c) m (bv l)) (hb : Below w.heap.size w w1) : NewB w w1 A m c l := ⟨hl, ho, hb⟩
set_option maxHeartbeats 1000000 in
theorem ref_WBytes (n : Nat) (w : World) (hn : n < 18446744073709551616) : Calls Try.prog 32 #[.int .u64 n] w (PostB w (Wd.be 8 n)) := by
  go_enter Try.func32, Try.ntmps32
  go_wp2
  go_loopw [0, 3] (fun x v wr => ∃ (y k : Nat) (A : Option Addr) (m c : Nat) (t : List UInt8), x = .int .u64 y ∧ v = .slice A m c ∧ NewB w wr A m c t ∧ y < 256 ^ k ∧ k + t.length ≤ 8 ∧ y ≤ n ∧ Wd.be 8 n = Wd.be k y ++ t) (fun x _ _ => (intOf x).toNat)
  case atStart => exact ⟨n, 8, none, 0, 0, [], rfl, rfl, NewB.none_ w, hn, by simp, Nat.le_refl _, by simp⟩
  case round =>
    obtain ⟨y, k, A, m, c, t, rfl, rfl, hN, hy, hk, hyn, he⟩ := hrel
    have hm := hN.1
    subst hm
    by_cases h0 : y = 0
    · subst h0
      rw [Wd.be_zero, List.nil_append] at he
      replace he := Lib.hid he
      replace hN := Lib.hid hN
      clear hy
      go_wp2
      go_ret
      exact ⟨_, _, _, rfl, by rw [he.out]; exact hN.out⟩
    · have h0' : (0 : Int) < (y : Int) := by omega
      obtain ⟨k, rfl⟩ : ∃ j, k = j + 1 := by
        cases k with
        | zero => simp at hy; omega
        | succ k => exact ⟨k, rfl⟩
      rw [Wd.be_succ k y, if_neg h0, List.append_assoc] at he
      have hy2 : y / 256 < 256 ^ k := by rw [Nat.div_lt_iff_lt_mul (by omega)]; rwa [Nat.pow_succ] at hy
      have hB := Lib.hid hN.bytes
      have hbe := Lib.hid hN.2.2
      have hs := hN.2.2.size
      have hown := own_lit (n := 1) wr #[.int .u8 ((y : Int) % 256)] [UInt8.ofNat (y % 256)] w.heap.size (by simp [bv]) (by simp [maxLen]) hs rfl
      replace he := Lib.hid he
      clear hN hy
      go_wp2_with (at_builtin; refine wpList_append_u8 rfl _ _ rfl w.heap.size _ 1 [UInt8.ofNat (y % 256)] rfl hown wr.heap.size A _ c t rfl (hB.out.alloc (Nat.le_refl _) _) (by omega) (by simp; omega) ?_; intro A1 c1 w2 hown1 hb1)
      refine ⟨⟨y / 256, k, A1, 1 + t.length, c1, [UInt8.ofNat (y % 256)] ++ t, by simp, rfl, ⟨by simp; omega, hown1, (hbe.out.alloc hs _).trans hb1⟩, hy2, by simp; omega, by omega, he.out⟩, ?_⟩
      simp [intOf]; omega
theorem Wd.muladd (m : Nat) (c : UInt8) (hm : m < 72057594037927936) : IntKind.u64.wrap (IntKind.u64.wrap ((m : Int) * 256) + IntKind.u64.wrap (c.toNat : Int)) = ((m * 256 + c.toNat : Nat) : Int) := by
  have hc := c.toNat_lt
  rw [IntKind.wrap_u64, IntKind.wrap_u64, IntKind.wrap_u64]; omega
set_option maxHeartbeats 1000000 in
set_option maxRecDepth 100000 in
theorem ref_WRead (A : Option Addr) (n c : Nat) (l : List UInt8) (w : World) (h : Bytes w w.heap.size A n c l) :
    Calls Try.prog 23 #[.slice A n c] w fun e w' => e = .returned (wordV (Wd.word l)) ∧ Below w.heap.size w w' := by
  have hlen := h.len
  subst hlen
  by_cases h8 : l.length ≤ 8
  · have h8' : ¬ (8 : Int) < (l.length : Int) := by omega
    have hrd := h.reads
    replace h := Lib.hid h
    go_enter Try.func23, Try.ntmps23
    go_wp2
    go_loop [4, 5] (fun n i => ∃ k : Nat, k ≤ l.length ∧ i = .int .i64 k ∧ n = .int .u64 (Wd.rd (l.take k) : Nat)) (fun _ i => l.length - (intOf i).toNat)
    case atStart => exact ⟨0, Nat.zero_le _, rfl, rfl⟩
    case round =>
      obtain ⟨k, hk, rfl, rfl⟩ := hrel
      by_cases hlt : k < l.length
      · obtain ⟨g, o, u, rfl, _, hx, hc⟩ := hrd.at_ (k := k) hlt
        rw [bv_at l k hlt] at hx
        cases hx
        have hlt2 := Wd.rd_lt (l.take k)
        have hb : Wd.rd (l.take k) < 72057594037927936 := Nat.lt_of_lt_of_le hlt2 (by rw [List.length_take, Nat.min_eq_left (by omega)]; exact Nat.pow_le_pow_right (n := 256) (i := k) (j := 7) (by omega) (by omega))
        have hs := Wd.muladd (Wd.rd (l.take k)) l[k] hb
        have he := Wd.rd_snoc (l.take k) l[k]
        rw [← List.take_succ_eq_append_getElem hlt] at he
        rw [← he] at hs
        clear hlt2 hb he
        go_wp2
        refine ⟨⟨k + 1, by omega, by go_num, rfl⟩, ?_⟩
        simp [intOf]; omega
      · obtain rfl : k = l.length := by omega
        rw [List.take_length]
        have hlt2 := Wd.rd_lt l
        have hb : Wd.rd l < 18446744073709551616 := Nat.lt_of_lt_of_le hlt2 (Nat.pow_le_pow_right (n := 256) (i := l.length) (j := 8) (by omega) (by omega))
        clear hrd
        go_wp2_with fail
        refine wp_region_held_drew (S := (fun W => Bytes W w.heap.size A l.length c l)) (by kernel_rfl) (by exact h.out.drew) (fun hS => ?_)
        (refine hTake (i := 0) (v := ?v1) rfl (by kernel_rfl) (by kernel_rfl) (by kernel_rfl) (fun _ _ _ h => h) (Or.inl ⟨by rfl, ?y1⟩) hS ?r1; (case y1 => (intro W hW; (go_simp); (try with_reducible rfl); done)); try simp only [Act.put, List.setIfInBounds_toArray, List.set_cons_zero, List.set_cons_succ])
        (refine hTake (i := 3) (v := ?v2) rfl (by kernel_rfl) (by kernel_rfl) (by kernel_rfl) (fun _ _ _ h => h) (Or.inl ⟨by rfl, ?y2⟩) hS ?r2; (case y2 => (intro W hW; (go_simp); (try with_reducible rfl); done)); try simp only [Act.put, List.setIfInBounds_toArray, List.set_cons_zero, List.set_cons_succ])
        (refine hTake (i := 4) (v := ?v3) rfl (by kernel_rfl) (by kernel_rfl) (by kernel_rfl) (fun _ _ _ h => h) (Or.inl ⟨by rfl, ?y3⟩) hS ?r3; (case y3 => (intro W hW; ((have g := hW.toStr Try.underlying25 Try.underlying5; go_simp)); (try with_reducible rfl); done)); try simp only [Act.put, List.setIfInBounds_toArray, List.set_cons_zero, List.set_cons_succ])
        (refine hOne (i := 1) rfl (by kernel_rfl) (fun K hK => ?_))
        go_simp
        refine (ref_WBytes (Wd.rd l) w.drew hb).mono ?_
        rintro e w2 ⟨A2, m2, c2, rfl, hN⟩
        have hB2 := hN.bytes
        have hm2 := hN.1
        subst hm2
        have hbe := hN.2.2
        clear hN
        (refine hK.out _ _ (by exact h.out.drew.below hbe) (fun hS => ?_); clear hK K; try simp only [Act.put, List.setIfInBounds_toArray, List.set_cons_zero, List.set_cons_succ])
        (refine hOne (i := 2) rfl (by kernel_rfl) (fun K hK => ?_))
        have g := hB2.toStr (P := Try.prog) Try.underlying25 Try.underlying5 9 Try.underlying9
        go_simp
        (refine hK.out _ _ (by exact h.out.drew.below hbe) (fun hS => ?_); clear hK K; try simp only [Act.put, List.setIfInBounds_toArray, List.set_cons_zero, List.set_cons_succ])
        have hbe2 : Below w.heap.size w w2 := (Below.refl w.heap.size w).drew.trans hbe
        clear g hbe hB2 hS
        have hS := h.out.drew.below (show Below w.heap.size w.drew w2 from ‹Below w.heap.size w w2› |> fun h => ⟨h.os, h.tape, h.output, h.size, h.block⟩)
        by_cases ht : Wd.tight l = true
        · have he := (Wd.tight_be l 8 h8).1 ht
          have hb2 : (Wd.be 8 (Wd.rd l) == l) = true := by rw [he]; simp
          have hv := Lib.hid (show wordV (Wd.word l) = .tuple #[.int .u64 (Wd.rd l : Nat), .bool true] by unfold Wd.word; rw [if_pos ⟨h8, ht⟩]; rfl)
          clear he ht
          (refine hTake (i := 5) (v := ?v4) rfl (by kernel_rfl) (by kernel_rfl) (by kernel_rfl) (fun _ _ _ h => h) (Or.inl ⟨by rfl, ?y4⟩) hS ?r4; (case y4 => (intro W hW; (go_simp); (try with_reducible rfl); done)); try simp only [Act.put, List.setIfInBounds_toArray, List.set_cons_zero, List.set_cons_succ])
          refine wpAnyH_done (by kernel_rfl) ?_ _
          clear hS
          go_wp2_with fail
          go_ret2
          exact ⟨by rw [hv.out]; rfl, hbe2⟩
        · have he : ¬ Wd.be 8 (Wd.rd l) = l := fun e => ht ((Wd.tight_be l 8 h8).2 e)
          have hb2 : (Wd.be 8 (Wd.rd l) == l) = false := by simpa using he
          have hv := Lib.hid (show wordV (Wd.word l) = .tuple #[.int .u64 0, .bool false] by unfold Wd.word; rw [if_neg (fun e => ht e.2)]; rfl)
          clear he ht
          (refine hTake (i := 5) (v := ?v5) rfl (by kernel_rfl) (by kernel_rfl) (by kernel_rfl) (fun _ _ _ h => h) (Or.inl ⟨by rfl, ?y5⟩) hS ?r5; (case y5 => (intro W hW; (go_simp); (try with_reducible rfl); done)); try simp only [Act.put, List.setIfInBounds_toArray, List.set_cons_zero, List.set_cons_succ])
          refine wpAnyH_done (by kernel_rfl) ?_ _
          clear hS
          go_wp2_with fail
          go_ret2
          exact ⟨by rw [hv.out]; rfl, hbe2⟩
  · have h8' : (8 : Int) < (l.length : Int) := by omega
    have hv : wordV (Wd.word l) = .tuple #[.int .u64 0, .bool false] := by unfold Wd.word; rw [if_neg (fun e => h8 e.1)]; rfl
    rw [hv]
    clear h hv
    go_enter Try.func23, Try.ntmps23
    go_wp2_with fail
    go_ret2
    exact ⟨rfl, Below.refl _ _⟩
end Go.Proofs.Ytcpnfllekpekgaa
