/-
  Package words: number, Read, Key, Bytes.
-/
import Derived.Test.YtcpnfllekpekgaaBy
import Derived.Test.YtcpnfllekpekgaaWordP
import Derived.Test.YtcpnfllekpekgaaBlk
namespace Go.Proofs.Ytcpnfllekpekgaa
open Go.RowKit

namespace Wd
theorem shl_or8 (m : Nat) (c : UInt8) (hm : m < 72057594037927936) : bits .or .u64 (IntKind.u64.wrap ((m : Int) * 256)) (IntKind.u64.wrap (c.toNat : Int)) = ((m * 256 + c.toNat : Nat) : Int) := by
  have hc := c.toNat_lt
  have e1 : IntKind.u64.wrap ((m : Int) * 256) = (m : Int) * 256 := by rw [IntKind.wrap_u64]; omega
  have e2 : IntKind.u64.wrap (c.toNat : Int) = (c.toNat : Int) := by rw [IntKind.wrap_u64]; omega
  rw [e1, e2, bits_join .u64 64 (by decide) (fun n h0 h1 => by rw [IntKind.wrap_u64]; omega) 8 _ _ (by omega) (by omega) (by omega) (by omega) (by omega) (by omega)]
  omega
end Wd
set_option maxHeartbeats 1000000 in
theorem words_number (A : Option Addr) (n c B : Nat) (l : List UInt8) (w : World) (h : Bytes w B A n c l) (hl : l.length ≤ 8) :
    Calls Try.prog 35 #[.slice A n c] w fun e w' => e = .returned (.int .u64 (Wd.rd l : Nat)) ∧ w = w' := by
  obtain ⟨hlen, _, _, hrd⟩ := h
  subst hlen
  go_enter Try.func35, Try.ntmps35
  go_wp2
  go_loop [3, 7] (fun n i => ∃ k : Nat, k ≤ l.length ∧ i = .int .i64 k ∧ n = .int .u64 (Wd.rd (l.take k) : Nat)) (fun _ i => l.length - (intOf i).toNat)
  case atStart => exact ⟨0, Nat.zero_le _, rfl, rfl⟩
  case round =>
    obtain ⟨k, hk, rfl, rfl⟩ := hrel
    by_cases hlt : k < l.length
    · obtain ⟨g, o, u, rfl, _, hx, hc⟩ := hrd.at_ (k := k) hlt
      rw [bv_at l k hlt] at hx
      cases hx
      have hlt2 := Wd.rd_lt (l.take k)
      have hb : Wd.rd (l.take k) < 72057594037927936 := Nat.lt_of_lt_of_le hlt2 (by rw [List.length_take, Nat.min_eq_left (by omega)]; exact Nat.pow_le_pow_right (n := 256) (i := k) (j := 7) (by omega) (by omega))
      have hs := Wd.shl_or8 (Wd.rd (l.take k)) l[k] hb
      have he := Wd.rd_snoc (l.take k) l[k]
      rw [← List.take_succ_eq_append_getElem hlt] at he
      rw [← he] at hs
      clear hlt2 hb he
      go_wp2
      refine ⟨⟨k + 1, by omega, by go_num, rfl⟩, ?_⟩
      simp [intOf]; omega
    · obtain rfl : k = l.length := by omega
      rw [List.take_length]
      go_wp2
      go_ret
      exact ⟨rfl, rfl⟩
/-- what Read answers -/
def Wd.word (l : List UInt8) : Option Nat := if l.length ≤ 8 ∧ Wd.tight l = true then some (Wd.rd l) else none
def wordV (x : Option Nat) : Value := match x with
  | some n => .tuple #[.int .u64 n, .bool true]
  | none => .tuple #[.int .u64 0, .bool false]
set_option maxHeartbeats 1000000 in
theorem words_Read (A : Option Addr) (n c B : Nat) (l : List UInt8) (w : World) (h : Bytes w B A n c l) :
    Calls Try.prog 21 #[.slice A n c] w fun e w' => e = .returned (wordV (Wd.word l)) ∧ w = w' := by
  have hlen := h.len
  subst hlen
  by_cases h8 : l.length ≤ 8
  · have h8' : ¬ (8 : Int) < (l.length : Int) := by omega
    cases l with
    | nil =>
      have hf := words_number A _ c B [] w h (by simp)
      go_enter Try.func21, Try.ntmps21
      go_wp2_with fail
      refine hf.mono ?_
      rintro e w1 ⟨rfl, rfl⟩
      go_wp2_with fail
      go_ret2
      exact ⟨rfl, rfl⟩
    | cons c0 t =>
      have h0 : (0 : Int) < ((c0 :: t).length : Int) := by simp
      obtain ⟨g, o, u, rfl, _, hx, hc⟩ := h.reads.at_ (k := 0) (by simp)
      have hx' : u = .int .u8 (c0.toNat : Int) := by simpa [bv] using hx.symm
      subst hx'
      rw [Nat.add_zero] at hc
      clear hx
      by_cases hz : c0 = 0
      · have hz' : (c0.toNat : Int) = 0 := by rw [hz]; rfl
        have hv : wordV (Wd.word (c0 :: t)) = .tuple #[.int .u64 0, .bool false] := by unfold Wd.word; rw [if_neg (by rw [hz]; simp [Wd.tight])]; rfl
        rw [hv]
        generalize hl : (c0 :: t).length = m at *
        replace hl := Lib.hid hl
        replace h := Lib.hid h
        clear hz hv
        go_enter Try.func21, Try.ntmps21
        go_wp2_with fail
        go_ret2
        exact ⟨rfl, rfl⟩
      · have hz' : ¬ (c0.toNat : Int) = 0 := fun e => hz (UInt8.toNat_inj.1 (show c0.toNat = 0 by omega))
        have hv : wordV (Wd.word (c0 :: t)) = .tuple #[.int .u64 (Wd.rd (c0 :: t) : Nat), .bool true] := by unfold Wd.word; rw [if_pos ⟨h8, by simp [Wd.tight, hz]⟩]; rfl
        rw [hv]
        have hf := words_number _ _ c B (c0 :: t) w h h8
        generalize Wd.rd (c0 :: t) = r at hf ⊢
        generalize hl : (c0 :: t).length = m at *
        replace hl := Lib.hid hl
        replace h := Lib.hid h
        clear hz hv
        go_enter Try.func21, Try.ntmps21
        go_wp2_with fail
        refine hf.mono ?_
        rintro e w1 ⟨rfl, rfl⟩
        go_wp2_with fail
        go_ret2
        exact ⟨rfl, rfl⟩
  · have h8' : (8 : Int) < (l.length : Int) := by omega
    have hv : wordV (Wd.word l) = .tuple #[.int .u64 0, .bool false] := by unfold Wd.word; rw [if_neg (fun e => h8 e.1)]; rfl
    rw [hv]
    clear h hv
    go_enter Try.func21, Try.ntmps21
    go_wp2_with fail
    go_ret2
    exact ⟨rfl, rfl⟩
theorem fix_cells (n : Nat) : bv (Wd.fix 8 n) = [.int .u8 ((n / 72057594037927936 % 256 : Nat) : Int), .int .u8 ((n / 281474976710656 % 256 : Nat) : Int), .int .u8 ((n / 1099511627776 % 256 : Nat) : Int), .int .u8 ((n / 4294967296 % 256 : Nat) : Int),
    .int .u8 ((n / 16777216 % 256 : Nat) : Int), .int .u8 ((n / 65536 % 256 : Nat) : Int), .int .u8 ((n / 256 % 256 : Nat) : Int), .int .u8 ((n % 256 : Nat) : Int)] := by
  simp only [Wd.fix, bv, List.nil_append, List.cons_append, List.map_cons, List.map_nil, Wd.byte_mod, Nat.div_div_eq_div_mul]
set_option maxHeartbeats 2000000 in
theorem words_Key (n : Nat) (w : World) (hn : n < 18446744073709551616) : Calls Try.prog 41 #[.int .u64 n] w (PostB w (Wd.fix 8 n)) := by
  obtain ⟨i0, hi, hz0, hz1, hz2⟩ := info_parts info_u8
  go_enter Try.func41, Try.ntmps41
  go_wp2_with (at_make; refine wpList_make_full w rfl _ _ 25 rfl w.heap.size 5 i0 (.int .u8 0) 1 Try.underlying25 hi hz0 hz1 .i64 .i64 _ _ 8 rfl rfl (by omega) (by omega) (by rw [hz2]; omega) (by unfold maxLen; omega) (Nat.le_refl _) ?_; intro w1 hown hgrow)
  have hbe : Below w.heap.size w w1 := (Below.refl _ _).grown hgrow (Nat.le_refl _) (by simp)
  have hb : Blk w1 w.heap.size 5 (Array.replicate 8 (.int .u8 0)) := by
    obtain ⟨cur, h1, h2, h3, _⟩ := own_block hown
    have h4 : cur.toList = (madeCells (Value.int .u8 0).cells (8 * 1)).toList := by rw [← h3, List.take_of_length_le (by simp [h2])]
    rw [show (Value.int .u8 0).cells = #[Value.int .u8 0] from rfl, toList_madeCells_one] at h4
    exact h1.eq (Array.toList_inj.1 (by rw [h4]; simp))
  clear hown hgrow hi hz0 hz1 hz2
  have c0 : w1.cell? ⟨w.heap.size, 0, none⟩ = some (.int .u8 0) := hb.cell 0
  have f0 := hb.frozen 0
  have c1 : w1.cell? ⟨w.heap.size, 1, none⟩ = some (.int .u8 0) := hb.cell 1
  have f1 := hb.frozen 1
  have c2 : w1.cell? ⟨w.heap.size, 2, none⟩ = some (.int .u8 0) := hb.cell 2
  have f2 := hb.frozen 2
  have c3 : w1.cell? ⟨w.heap.size, 3, none⟩ = some (.int .u8 0) := hb.cell 3
  have f3 := hb.frozen 3
  have c4 : w1.cell? ⟨w.heap.size, 4, none⟩ = some (.int .u8 0) := hb.cell 4
  have f4 := hb.frozen 4
  have c5 : w1.cell? ⟨w.heap.size, 5, none⟩ = some (.int .u8 0) := hb.cell 5
  have f5 := hb.frozen 5
  have c6 : w1.cell? ⟨w.heap.size, 6, none⟩ = some (.int .u8 0) := hb.cell 6
  have f6 := hb.frozen 6
  have c7 : w1.cell? ⟨w.heap.size, 7, none⟩ = some (.int .u8 0) := hb.cell 7
  have f7 := hb.frozen 7
  replace hb := Lib.hid hb
  refine wp_loop_rounds 9 ?_
  rw [rounds_succ]; go_wp2
  rw [rounds_succ]; go_wp2
  rw [rounds_succ]; go_wp2
  rw [rounds_succ]; go_wp2
  rw [rounds_succ]; go_wp2
  rw [rounds_succ]; go_wp2
  rw [rounds_succ]; go_wp2
  rw [rounds_succ]; go_wp2
  rw [rounds_succ]; go_wp2
  go_ret
  have hbw := hb.out
  clear c0 f0 c1 f1 c2 f2 c3 f3 c4 f4 c5 f5 c6 f6 c7 f7 hb
  refine ⟨_, _, _, rfl, by rw [Wd.fix_length], ?_, ?_⟩
  · rw [fix_cells]
    refine ⟨rfl, .inr ⟨w.heap.size, 8, #[.int .u8 ((n : Int) / 72057594037927936), .int .u8 ((n : Int) / 281474976710656 % 256), .int .u8 ((n : Int) / 1099511627776 % 256), .int .u8 ((n : Int) / 4294967296 % 256), .int .u8 ((n : Int) / 16777216 % 256), .int .u8 ((n : Int) / 65536 % 256), .int .u8 ((n : Int) / 256 % 256), .int .u8 ((n : Int) % 256)], rfl, Nat.le_refl _, ((((((((((hbw.set_ 0 _).set_ 1 _).set_ 2 _).set_ 3 _).set_ 4 _).set_ 5 _).set_ 6 _).set_ 7 _)).eq rfl), Nat.le_refl _, by unfold maxLen; omega, rfl, ?_⟩⟩
    have e : (n : Int) / 72057594037927936 = ((n / 72057594037927936 % 256 : Nat) : Int) := by omega
    rw [e]
    rfl
  · exact ((((((((hbe.setCell (Nat.le_refl _) _).setCell (Nat.le_refl _) _).setCell (Nat.le_refl _) _).setCell (Nat.le_refl _) _).setCell (Nat.le_refl _) _).setCell (Nat.le_refl _) _).setCell (Nat.le_refl _) _).setCell (Nat.le_refl _) _)
end Go.Proofs.Ytcpnfllekpekgaa
