/-
  The reference of chapter 2: first, of texts.
-/
import Derived.Test.YtcpnfllekpekgaaRf1
namespace Go.Proofs.Ytcpnfllekpekgaa
open Go.RowKit

/-- the bytes from a place up to another -/
def cutL (l : List UInt8) (a b : Nat) : List UInt8 := (l.take b).drop a
theorem cutL_len (l : List UInt8) (a b : Nat) (h : b ≤ l.length) : (cutL l a b).length = b - a := by unfold cutL; rw [List.length_drop, List.length_take]; omega
theorem cutL_nil (l : List UInt8) (a : Nat) (h : a ≤ l.length) : cutL l a a = [] := List.eq_nil_of_length_eq_zero (by rw [cutL_len l a a h]; omega)
theorem cutL_cons (l : List UInt8) (a b : Nat) (h : a < b) (hb : b ≤ l.length) : cutL l a b = l[a] :: cutL l (a + 1) b := by
  unfold cutL
  rw [List.drop_eq_getElem_cons (by rw [List.length_take]; omega), List.getElem_take]
theorem cutL_drop (l : List UInt8) (a b k : Nat) : (cutL l a b).drop k = cutL l (a + k) b := by unfold cutL; rw [List.drop_drop]
theorem cutL_take (l : List UInt8) (a b k : Nat) (h : a + k ≤ b) : (cutL l a b).take k = cutL l a (a + k) := by
  unfold cutL
  rw [List.take_drop, List.take_take, Nat.min_eq_left h]
theorem cutL_at (l : List UInt8) (a b i : Nat) (h : a + i < b) (hb : b ≤ l.length) : (cutL l a b)[i]? = some (l[a + i]'(by omega)) := by
  unfold cutL
  rw [List.getElem?_drop, List.getElem?_take, if_pos h, List.getElem?_eq_getElem]
/-- what first answers -/
def FstQ (d : Nat) (t : List UInt8) (E : Nat) (w : World) (e : Ending) (w' : World) : Prop := Below w.heap.size w w' ∧ match Ns.item d t with
  | .ok (x, r) => ∃ v, e = .returned (.tuple #[v, .int .i64 ((E - r.length : Nat) : Int), .int .i64 0]) ∧ Sits (fun b => w.heap.size ≤ b) w' (d + 1) v x
  | .error k => e = .returned (.tuple #[itemZ, .int .i64 0, .int .i64 k]) ∧ k ≠ 0
theorem FstQ.bad {d : Nat} {t : List UInt8} {E : Nat} {w w' : World} {k : Int} (h : Ns.item d t = .error k) (hb : Below w.heap.size w w') (hk : k ≠ 0) : FstQ d t E w (.returned (.tuple #[itemZ, .int .i64 0, .int .i64 k])) w' := by
  refine ⟨hb, ?_⟩
  rw [h]
  exact ⟨rfl, hk⟩
theorem FstQ.good {d : Nat} {t r : List UInt8} {E : Nat} {w w' : World} {x : Ns.It (d + 1)} {v : Value} {z : Int} (h : Ns.item d t = .ok (x, r)) (hb : Below w.heap.size w w') (hz : z = ((E - r.length : Nat) : Int)) (hv : Sits (fun b => w.heap.size ≤ b) w' (d + 1) v x) : FstQ d t E w (.returned (.tuple #[v, .int .i64 z, .int .i64 0])) w' := by
  refine ⟨hb, ?_⟩
  rw [h, hz]
  exact ⟨v, rfl, hv⟩
/-- the end: a text of new bytes -/
theorem fst_text {d : Nat} {t r b : List UInt8} {E B : Nat} {w w3 : World} {A : Option Addr} {m c : Nat} {z : Int} (hx : Ns.item d t = .ok (Ns.tx b, r)) (hown : w3.ownsRow B 5 1 (.slice A m c) m (bv b)) (hB : w.heap.size < B) (hm : m = b.length)
    (hbe : Below w.heap.size w w3) (hz : z = ((E - r.length : Nat) : Int)) (cs : Array Value) : FstQ d t E w (.returned (.tuple #[txV A m c, .int .i64 z, .int .i64 0])) (w3.setRow w.heap.size cs) := by
  have ho := Own.of_row hown
  exact FstQ.good hx (below_row hbe (Nat.le_refl _) _) hz (Sits.text hm ho.cap ho.lim ((InS.of_own ho).move (fun g hg1 hg2 => ⟨by omega, setRow_other w3 _ g cs (by omega)⟩) (by simp)))
set_option maxHeartbeats 1000000 in
set_option maxRecDepth 100000 in
theorem first_low (d D : Nat) (hD : D ≤ 8) (A : Option Addr) (n c B : Nat) (l : List UInt8) (w : World) (a E : Nat) (h : Bytes w B A n c l) (hB : B ≤ w.heap.size) (haE : a ≤ E) (hE : E ≤ n) (hc : ∀ y t, cutL l a E = y :: t → y.toNat < 128) :
    Calls Try.prog 45 #[.slice A n c, .int .i64 a, .int .i64 E, .int .i64 D] w (FstQ d (cutL l a E) E w) := by
  have hlen := h.len
  subst hlen
  have hn63 : (l.length : Int) ≤ 9223372036854775807 := by have := h.cap; have := h.lim; unfold maxLen at *; omega
  have hb0 : Blk (w.alloc (.cells rowZ 38)) w.heap.size 38 rowZ := Blk.new w _ _
  have hbe : Below w.heap.size w (w.alloc (.cells rowZ 38)) := (Below.refl _ _).alloc (Nat.le_refl _) _
  have hs0 : (w.alloc (.cells rowZ 38)).heap.size = w.heap.size + 1 := by simp
  replace hbe := Lib.hid hbe
  replace hb0 := Lib.hid hb0
  replace hs0 := Lib.hid hs0
  rcases Nat.lt_or_ge a E with hlt | hge
  · have hlt' : ¬ (E : Int) ≤ a := by omega
    have hcc := cutL_cons l a E hlt hE
    have hlow := hc _ _ hcc
    have hx := Ns.item_one d l[a] (cutL l (a + 1) E) hlow
    rw [← hcc] at hx
    replace hx := Lib.hid hx
    have hrl := Lib.hid (cutL_len l (a + 1) E hE)
    obtain ⟨g, o, u, rfl, hg, hu, hcl⟩ := h.reads.at_ (k := a) (by omega)
    rw [bv_at l a (by omega)] at hu
    cases hu
    have hl1 : (l[a].toNat : Int) < 128 := by omega
    have hl2 : ¬ (192 : Int) ≤ l[a].toNat := by omega
    have ha1 : IntKind.i64.wrap ((a : Int) + 1) = (a : Int) + 1 := by rw [IntKind.wrap_i64]; omega
    generalize hty : l[a] = y at *
    have hcl2 : (w.alloc (.cells #[.bool false, .slice none 0 0, .slice none 0 0] 38)).cell? ⟨g, o + a, none⟩ = some (.int .u8 (y.toNat : Int)) := (World.cell?_alloc_lt w _ ⟨g, o + a, none⟩ (by show g < _; omega)).trans hcl
    replace hc := Lib.hid hc
    replace h := Lib.hid h
    replace hty := Lib.hid hty
    replace hcc := Lib.hid hcc
    clear hcl
    go_enter Try.func45, Try.ntmps45
    go_wp2_with (refine wpList_store_row rfl 38 _ _ rfl w.heap.size #[.bool false, .slice (some ⟨w.heap.size + 1, 0, none⟩) 1 1, .slice none 0 0] rfl rfl _ _ (hb0.out.alloc _) info_item3 rfl (by simp [Value.oneCell']) ?_)
    refine bodyPost_ret (v := .tuple #[.agg #[.bool false, .slice (some ⟨w.heap.size + 1, 0, none⟩) 1 1, .slice none 0 0], .int .i64 ((a : Int) + 1), .int .i64 0]) (results_row_tmps rfl _ _ w.heap.size _ #[.bool false, .slice (some ⟨w.heap.size + 1, 0, none⟩) 1 1, .slice none 0 0] _ _ _ _ rfl rfl rfl ((hb0.out.alloc _).row _) Try.underlying38 rfl info_item3) rfl ?_
    have hown := own_lit (n := 1) (w.alloc (.cells rowZ 38)) #[.int .u8 (y.toNat : Int)] [y] (w.heap.size + 1) rfl (by simp [maxLen]) (by simp) rfl
    rw [hs0.out] at hown
    exact fst_text hx.out hown (Nat.lt_succ_self _) rfl (hbe.out.alloc (by rw [hs0.out]; omega) _) (by rw [hrl.out]; omega) _
  · obtain rfl : a = E := by omega
    have hx := Lib.hid (show Ns.item d (cutL l a a) = .error 22 by rw [cutL_nil l a hE]; exact Ns.item_nil d)
    have hlt' : (a : Int) ≤ a := by omega
    replace hc := Lib.hid hc
    replace h := Lib.hid h
    go_enter Try.func45, Try.ntmps45
    go_wp2_with (refine wpList_store_row rfl 38 _ _ rfl w.heap.size #[.bool false, .slice none 0 0, .slice none 0 0] rfl rfl _ _ hb0.out info_item3 rfl (by simp [Value.oneCell']) ?_)
    refine bodyPost_ret (v := .tuple #[.agg #[.bool false, .slice none 0 0, .slice none 0 0], .int .i64 0, .int .i64 22]) (results_row_tmps rfl _ _ w.heap.size _ #[.bool false, .slice none 0 0, .slice none 0 0] _ _ _ _ rfl rfl rfl (hb0.out.row _) Try.underlying38 rfl info_item3) rfl ?_
    exact FstQ.bad hx.out (below_row hbe.out (Nat.le_refl _) _) (by decide)
end Go.Proofs.Ytcpnfllekpekgaa
