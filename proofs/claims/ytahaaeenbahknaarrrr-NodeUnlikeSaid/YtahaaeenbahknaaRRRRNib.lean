import Derived.Test.YtahaaeenbahknaaRRRRBy
import Derived.BigQuiet
import Derived.Deep.QuietTactic
import Derived.Lib.Bytealg
import Derived.StillTailTactics
namespace Go.Proofs.YtahaaeenbahknaaRRRR
open Go.RowKit

namespace Nib
def right (l : List UInt8) : Bool := l.all (· ≤ 15)
theorem right_take (l : List UInt8) (k : Nat) (h : k < l.length) : right (l.take (k + 1)) = (right (l.take k) && decide (l[k] ≤ 15)) := by
  rw [List.take_succ_eq_append_getElem h]; unfold right; rw [List.all_append]; simp
theorem right_bad (l : List UInt8) (k : Nat) (h : k < l.length) (h2 : 15 < l[k].toNat) : right l = false := by
  unfold right
  rw [List.all_eq_false]
  exact ⟨l[k], List.getElem_mem h, by simp [UInt8.le_iff_toNat_le]; omega⟩
theorem right_step (l : List UInt8) (k : Nat) (h : k < l.length) (h1 : right (l.take k) = true) (h2 : l[k].toNat ≤ 15) : right (l.take (k + 1)) = true := by
  rw [right_take l k h, h1]; simp [UInt8.le_iff_toNat_le]; omega
end Nib

set_option maxHeartbeats 400000 in
theorem nib_Right (l : List UInt8) (A : Option Addr) (n c B : Nat) (w : World) (h : Bytes w B A n c l) :
    Calls Try.prog 14 #[.slice A n c] w fun e w' => e = .returned (.bool (Nib.right l)) ∧ w = w' := by
  obtain ⟨hlen, hcap, hlim, hr⟩ := h
  have hm : l.length ≤ 9223372036854775807 := by unfold maxLen at hlim; omega
  subst hlen
  clear hcap hlim
  go_enter Try.func14, Try.ntmps14
  go_wp2
  go_loop [7] (fun i => ∃ k : Nat, k ≤ l.length ∧ i = .int .i64 k ∧ Nib.right (l.take k) = true) (fun i => l.length - (intOf i).toNat)
  case atStart => exact ⟨0, Nat.zero_le _, rfl, rfl⟩
  case round =>
    obtain ⟨k, hk, rfl, hright⟩ := hrel
    have HR := Lib.hid hright
    clear hright
    by_cases hlt : k < l.length
    · obtain ⟨g, o, u, rfl, _, hx, hc⟩ := hr.at_ hlt
      rw [bv_at l k hlt] at hx
      cases hx
      go_wp2
      · have h2 : 15 < (l[k].toNat : Int) := by assumption
        go_ret
        exact ⟨by rw [Nib.right_bad l k hlt (by omega)]; rfl, rfl⟩
      · have h2 : (l[k].toNat : Int) ≤ 15 := by assumption
        refine ⟨⟨k + 1, by omega, by go_num, Nib.right_step l k hlt HR.out (by omega)⟩, ?_⟩
        simp [intOf]; omega
    · obtain rfl : k = l.length := by omega
      go_wp2
      go_ret
      have h3 := HR.out
      rw [List.take_length] at h3
      exact ⟨by rw [h3]; rfl, rfl⟩

namespace Nib
def hi (c : UInt8) : UInt8 := UInt8.ofNat (c.toNat / 16)
def lo (c : UInt8) : UInt8 := UInt8.ofNat (c.toNat % 16)
theorem hi_toNat (c : UInt8) : (hi c).toNat = c.toNat / 16 := by
  have := c.toNat_lt
  simp [hi]; omega
theorem lo_toNat (c : UInt8) : (lo c).toNat = c.toNat % 16 := by simp [lo]; omega
def of (l : List UInt8) : List UInt8 := l.flatMap fun (c : UInt8) => [hi c, lo c]
theorem of_length (l : List UInt8) : (of l).length = 2 * l.length := by
  unfold of; induction l with
  | nil => rfl
  | cons a l ih => simp only [List.flatMap_cons, List.length_append, ih, List.length_cons, List.length_nil]; omega
theorem of_take (l : List UInt8) (k : Nat) (h : k < l.length) : of (l.take (k + 1)) = of (l.take k) ++ [hi l[k], lo l[k]] := by
  rw [List.take_succ_eq_append_getElem h]; unfold of; rw [List.flatMap_append]; simp only [List.flatMap_cons, List.flatMap_nil, List.append_nil]
theorem set_two {α : Type} (xs : List α) (z a b : α) (m : Nat) (hm : 2 ≤ m) : ((xs ++ List.replicate m z).set xs.length a).set (xs.length + 1) b = xs ++ [a, b] ++ List.replicate (m - 2) z := by
  obtain ⟨m, rfl⟩ : ∃ m', m = m' + 2 := ⟨m - 2, by omega⟩
  simp [List.set_append, List.replicate_succ]
theorem of_step (l : List UInt8) (k : Nat) (h : k < l.length) :
    ((bv (of (l.take k) ++ List.replicate (2 * l.length - 2 * k) 0)).set (2 * k) (.int .u8 (l[k].toNat / 16 : Int))).set (2 * k + 1) (.int .u8 (bits BinOp.and IntKind.u8 (l[k].toNat : Int) 15)) =
      bv (of (l.take (k + 1)) ++ List.replicate (2 * l.length - 2 * (k + 1)) 0) := by
  have hb := l[k].toNat_lt
  have e1 : bits BinOp.and IntKind.u8 (l[k].toNat : Int) 15 = ((lo l[k]).toNat : Int) := by
    rw [show (15 : Int) = ((15 : Nat) : Int) from rfl, u8_and_nat _ _ (by omega) (by omega), nat_mask4, lo_toNat]
  have e2 : (l[k].toNat / 16 : Int) = ((hi l[k]).toNat : Int) := by rw [hi_toNat]; omega
  have hl : (bv (of (l.take k))).length = 2 * k := by rw [bv_length, of_length, List.length_take]; omega
  have e3 : ∀ (m : Nat), bv (List.replicate m (0 : UInt8)) = List.replicate m (Value.int .u8 0) := fun m => by simp [bv]
  have e4 : ∀ a b : List UInt8, bv (a ++ b) = bv a ++ bv b := fun a b => by simp [bv]
  rw [e1, e2, e4, e3, ← hl, set_two _ _ _ _ _ (by rw [hl]; omega), of_take l k h, e4, e4, e3, hl]
  congr 2
end Nib

set_option maxHeartbeats 400000 in
theorem nib_Of (l : List UInt8) (A : Option Addr) (n c B : Nat) (w : World) (h : Bytes w B A n c l) (hB : B ≤ w.heap.size) (hl : 2 * l.length ≤ 281474976710656) :
    Calls Try.prog 44 #[.slice A n c] w fun e w' => ∃ g, e = .returned (.slice (some ⟨g, 0, none⟩) (2 * l.length) (2 * l.length)) ∧
      w'.ownsRow w.heap.size 5 1 (.slice (some ⟨g, 0, none⟩) (2 * l.length) (2 * l.length)) (2 * l.length) (bv (Nib.of l)) ∧ Below w.heap.size w w' := by
  obtain ⟨hlen, hcap, hlim, hr⟩ := h
  subst hlen
  clear hcap hlim
  obtain ⟨i0, hi, hz0, hz1, hz2⟩ := info_parts info_u8
  go_enter Try.func44, Try.ntmps44
  go_wp2_with (at_make; refine wpList_make_full w rfl _ _ 22 rfl w.heap.size 5 i0 (.int .u8 0) 1 Try.underlying22 hi hz0 hz1 .i64 .i64 _ _ (2 * l.length) rfl rfl (by omega) (by omega) (by rw [hz2]; omega) (by unfold maxLen; omega) (Nat.le_refl _) ?_; intro w1 hown hgrow)
  have hb : Below w.heap.size w w1 := (Below.refl _ _).grown hgrow (Nat.le_refl _) (by simp)
  have hown0 : w1.ownsRow w.heap.size 5 1 (.slice (some ⟨w.heap.size, 0, none⟩) (2 * l.length) (2 * l.length)) (2 * l.length) (bv (Nib.of (l.take 0) ++ List.replicate (2 * l.length - 2 * 0) 0)) := by
    have e : (madeCells (Value.int .u8 0).cells (2 * l.length * 1)).toList = bv (Nib.of (l.take 0) ++ List.replicate (2 * l.length - 2 * 0) 0) := by
      rw [show (Value.int .u8 0).cells = #[Value.int .u8 0] from rfl, toList_madeCells_one]
      simp [Nib.of, bv]
    rw [← e]; exact hown
  clear hown hgrow
  go_loopw [12] (fun i wr => ∃ k : Nat, k ≤ l.length ∧ i = .int .i64 k ∧ Below w.heap.size w wr ∧
      wr.ownsRow w.heap.size 5 1 (.slice (some ⟨w.heap.size, 0, none⟩) (2 * l.length) (2 * l.length)) (2 * l.length) (bv (Nib.of (l.take k) ++ List.replicate (2 * l.length - 2 * k) 0))) (fun i _ => l.length - (intOf i).toNat)
  case atStart => exact ⟨0, Nat.zero_le _, rfl, hb, hown0⟩
  case round =>
    obtain ⟨k, hk, rfl, hb1, hown1⟩ := hrel
    by_cases hlt : k < l.length
    · obtain ⟨g, o, u, rfl, hbl, hx, hc⟩ := hr.at_ hlt
      rw [bv_at l k hlt] at hx
      cases hx
      have hc1 := (hb1.cell (p := ⟨g, o + k, none⟩) (by show g < _; omega)).trans hc
      have hlb := hown1.1
      obtain ⟨v1, hv1⟩ : ∃ v, wr.cell? ⟨w.heap.size, 2 * k, none⟩ = some v := ⟨_, (hown1.cellAt (2 * k) (by omega)).trans (List.getElem?_eq_getElem (by omega))⟩
      obtain ⟨v2, hv2⟩ : ∃ v, wr.cell? ⟨w.heap.size, 2 * k + 1, none⟩ = some v := ⟨_, (hown1.cellAt (2 * k + 1) (by omega)).trans (List.getElem?_eq_getElem (by omega))⟩
      have hf1 := hown1.frozenAt (2 * k)
      have hf2 := hown1.frozenAt (2 * k + 1)
      have hs1 := hown1.stored (2 * k) (.int .u8 (l[k].toNat / 16 : Int))
      have hs2 := hs1.1.stored (2 * k + 1) (.int .u8 (bits BinOp.and IntKind.u8 (l[k].toNat : Int) 15))
      rw [Nib.of_step l k hlt] at hs2
      have hb2 := (hb1.setCell (p := ⟨w.heap.size, 2 * k, none⟩) (Nat.le_refl _) (.int .u8 (l[k].toNat / 16 : Int))).setCell (p := ⟨w.heap.size, 2 * k + 1, none⟩) (Nat.le_refl _) (.int .u8 (bits BinOp.and IntKind.u8 (l[k].toNat : Int) 15))
      have HS := Lib.hid hs2.1
      have HB := Lib.hid hb2
      clear hs1 hs2 hb2 hown1 hlb
      go_wp2
      refine ⟨⟨k + 1, by omega, by go_num, HB.out, HS.out⟩, ?_⟩
      simp [intOf]; omega
    · obtain rfl : k = l.length := by omega
      go_wp2
      go_ret
      rw [Nat.sub_self, List.take_length] at hown1
      simp only [List.replicate, List.append_nil] at hown1
      exact ⟨_, rfl, hown1, hb1⟩

namespace Nib
/-- two nibbles a byte -/
def join : List UInt8 → List UInt8
  | a :: b :: r => UInt8.ofNat (16 * a.toNat + b.toNat) :: join r
  | _ => []
theorem join_length : ∀ l : List UInt8, (join l).length = l.length / 2
  | [] => rfl
  | [_] => by simp [join]
  | a :: b :: r => by simp only [join, List.length_cons, join_length r]; omega
theorem join_get : ∀ (l : List UInt8) (k : Nat) (h : 2 * k + 1 < l.length), (join l)[k]? = some (UInt8.ofNat (16 * l[2 * k].toNat + l[2 * k + 1].toNat))
  | [], _, h => by simp at h
  | [_], _, h => by simp at h
  | a :: b :: r, 0, _ => rfl
  | a :: b :: r, k + 1, h => by
    have := join_get r k (by simp at h; omega)
    simp only [join, List.getElem?_cons_succ, this]
    rfl
theorem join_take (l : List UInt8) (k : Nat) (h : 2 * k + 1 < l.length) : (join l).take (k + 1) = (join l).take k ++ [UInt8.ofNat (16 * l[2 * k].toNat + l[2 * k + 1].toNat)] := by
  have hk : k < (join l).length := by rw [join_length]; omega
  have := join_get l k h
  rw [List.getElem?_eq_getElem hk] at this
  rw [List.take_succ_eq_append_getElem hk]
  simp only [Option.some.injEq] at this
  rw [this]
theorem set_one {α : Type} (xs : List α) (z a : α) (m : Nat) (hm : 1 ≤ m) : ((xs ++ List.replicate m z).set xs.length a) = xs ++ [a] ++ List.replicate (m - 1) z := by
  obtain ⟨m, rfl⟩ : ∃ m', m = m' + 1 := ⟨m - 1, by omega⟩
  simp [List.set_append, List.replicate_succ]
theorem right_at (l : List UInt8) (h : right l = true) (k : Nat) (hk : k < l.length) : l[k].toNat ≤ 15 := by
  unfold right at h
  rw [List.all_eq_true] at h
  have := h l[k] (List.getElem_mem hk)
  simpa [UInt8.le_iff_toNat_le] using this
theorem join_step (l : List UInt8) (k : Nat) (h : 2 * k + 1 < l.length) :
    (bv ((join l).take k ++ List.replicate (l.length / 2 - k) 0)).set k (.int .u8 ((16 * (l[2 * k].toNat : Int) + (l[2 * k + 1].toNat : Int)) % 256)) = bv ((join l).take (k + 1) ++ List.replicate (l.length / 2 - (k + 1)) 0) := by
  have hl : (bv ((join l).take k)).length = k := by rw [bv_length, List.length_take, join_length]; omega
  have e3 : ∀ (m : Nat), bv (List.replicate m (0 : UInt8)) = List.replicate m (Value.int .u8 0) := fun m => by simp [bv]
  have e4 : ∀ a b : List UInt8, bv (a ++ b) = bv a ++ bv b := fun a b => by simp [bv]
  have e5 := set_one (bv ((join l).take k)) (Value.int .u8 0) (.int .u8 ((UInt8.ofNat (16 * l[2 * k].toNat + l[2 * k + 1].toNat)).toNat : Int)) (l.length / 2 - k) (by omega)
  rw [hl] at e5
  have e6 : (16 * (l[2 * k].toNat : Int) + (l[2 * k + 1].toNat : Int)) % 256 = ((UInt8.ofNat (16 * l[2 * k].toNat + l[2 * k + 1].toNat)).toNat : Int) := by simp
  rw [e6, e4, e3, e5, join_take l k h, e4, e4, e3]
  congr 2
theorem or_join (a b : UInt8) (hb : b.toNat ≤ 15) (ha : a.toNat ≤ 15) : bits BinOp.or IntKind.u8 (IntKind.u8.wrap ((a.toNat : Int) * 16)) (b.toNat : Int) = (16 * (a.toNat : Int) + (b.toNat : Int)) % 256 := by
  rw [IntKind.wrap_u8', show (a.toNat : Int) * 16 % 256 = ((16 * a.toNat : Nat) : Int) by omega, u8_or_nat _ _ (by omega) (by omega),
    nat_join 4 (16 * a.toNat) b.toNat (by omega) (by omega)]
  omega
end Nib

set_option maxHeartbeats 2000000 in
set_option maxRecDepth 100000 in
theorem nib_joined (l : List UInt8) (A : Option Addr) (n c B : Nat) (w : World) (h : Bytes w B A n c l) (hB : B ≤ w.heap.size) (hl : l.length ≤ 281474976710656) (hright : Nib.right l = true) :
    Calls Try.prog 28 #[.slice A n c] w fun e w' => ∃ g, e = .returned (.slice (some ⟨g, 0, none⟩) (l.length / 2) (l.length / 2)) ∧
      w'.ownsRow w.heap.size 5 1 (.slice (some ⟨g, 0, none⟩) (l.length / 2) (l.length / 2)) (l.length / 2) (bv (Nib.join l)) ∧ Below w.heap.size w w' := by
  obtain ⟨hlen, hcap, hlim, hr⟩ := h
  subst hlen
  clear hcap hlim
  obtain ⟨i0, hi, hz0, hz1, hz2⟩ := info_parts info_u8
  go_enter Try.func28, Try.ntmps28
  go_wp2_with (at_make; refine wpList_make_full w rfl _ _ 22 rfl w.heap.size 5 i0 (.int .u8 0) 1 Try.underlying22 hi hz0 hz1 .i64 .i64 _ _ (l.length / 2) rfl rfl (by omega) (by omega) (by rw [hz2]; omega) (by unfold maxLen; omega) (Nat.le_refl _) ?_; intro w1 hown hgrow)
  have hb : Below w.heap.size w w1 := (Below.refl _ _).grown hgrow (Nat.le_refl _) (by simp)
  have hown0 : w1.ownsRow w.heap.size 5 1 (.slice (some ⟨w.heap.size, 0, none⟩) (l.length / 2) (l.length / 2)) (l.length / 2) (bv ((Nib.join l).take 0 ++ List.replicate (l.length / 2 - 0) 0)) := by
    have e : (madeCells (Value.int .u8 0).cells (l.length / 2 * 1)).toList = bv ((Nib.join l).take 0 ++ List.replicate (l.length / 2 - 0) 0) := by
      rw [show (Value.int .u8 0).cells = #[Value.int .u8 0] from rfl, toList_madeCells_one]
      simp [bv]
    rw [← e]; exact hown
  clear hown hgrow
  go_loopw [11] (fun i wr => ∃ k : Nat, k ≤ l.length / 2 ∧ i = .int .i64 k ∧ Below w.heap.size w wr ∧
      wr.ownsRow w.heap.size 5 1 (.slice (some ⟨w.heap.size, 0, none⟩) (l.length / 2) (l.length / 2)) (l.length / 2) (bv ((Nib.join l).take k ++ List.replicate (l.length / 2 - k) 0))) (fun i _ => l.length / 2 - (intOf i).toNat)
  case atStart => exact ⟨0, Nat.zero_le _, rfl, hb, hown0⟩
  case round =>
    obtain ⟨k, hk, rfl, hb1, hown1⟩ := hrel
    by_cases hlt : k < l.length / 2
    · obtain ⟨g, o, u, rfl, hbl, hx, hc⟩ := hr.at_ (k := 2 * k) (by omega)
      obtain ⟨g', o', u', had, _, hx', hc'⟩ := hr.at_ (k := 2 * k + 1) (by omega)
      cases had
      rw [bv_at l _ (by omega)] at hx hx'
      cases hx
      cases hx'
      have hc1 := (hb1.cell (p := ⟨g, o + 2 * k, none⟩) (by show g < _; omega)).trans hc
      have hc2 := (hb1.cell (p := ⟨g, o + (2 * k + 1), none⟩) (by show g < _; omega)).trans hc'
      have hlb := hown1.1
      obtain ⟨v1, hv1⟩ : ∃ v, wr.cell? ⟨w.heap.size, k, none⟩ = some v := ⟨_, (hown1.cellAt k (by omega)).trans (List.getElem?_eq_getElem (by omega))⟩
      have hf1 := hown1.frozenAt k
      have hs1 := hown1.stored k (.int .u8 (bits BinOp.or IntKind.u8 (IntKind.u8.wrap ((l[2 * k].toNat : Int) * 16)) (l[2 * k + 1].toNat : Int)))
      have q1 : IntKind.i64.wrap (2 * (k : Int)) = 2 * (k : Int) := IntWalk.i64_in _ (by omega)
      have q2 : IntKind.i64.wrap (2 * (k : Int) + 1) = 2 * (k : Int) + 1 := IntWalk.i64_in _ (by omega)
      have q3 : (2 * (k : Int)).toNat = 2 * k := by omega
      have q4 : (2 * (k : Int) + 1).toNat = 2 * k + 1 := by omega
      have q5 : 0 ≤ 2 * (k : Int) := by omega
      have q6 : 2 * (k : Int) < (l.length : Int) := by omega
      have q7 : 0 ≤ 2 * (k : Int) + 1 := by omega
      have q8 : 2 * (k : Int) + 1 < (l.length : Int) := by omega
      have q9 : (k : Int) < (l.length : Int) / 2 := by omega
      rw [Nib.or_join _ _ (Nib.right_at l hright _ (by omega)) (Nib.right_at l hright _ (by omega))] at hs1
      rw [Nib.join_step l k (by omega)] at hs1
      have HS := Lib.hid hs1.1
      have qa := Nib.or_join l[2 * k] l[2 * k + 1] (Nib.right_at l hright _ (by omega)) (Nib.right_at l hright _ (by omega))
      clear hs1 hown1 hlb
      go_wp2
      go_still_tail 16, (by kernel_rfl)
      change wpList _ _ _ _ _ wr.drew
      clear q1 q2 q3 q4 q5 q7
      go_wp2
      refine ⟨⟨k + 1, by omega, by go_num, (hb1.setCell (Nat.le_refl _) _).drew, HS.out⟩, ?_⟩
      simp [intOf]; omega
    · obtain rfl : k = l.length / 2 := by omega
      go_wp2
      go_ret
      rw [Nat.sub_self, List.take_of_length_le (by rw [Nib.join_length]; omega)] at hown1
      simp only [List.replicate, List.append_nil] at hown1
      exact ⟨_, rfl, hown1, hb1⟩

namespace Nib
def key (l : List UInt8) : Option (List UInt8) := if right l = true ∧ l.length % 2 = 0 then some (join l) else none
end Nib

end Go.Proofs.YtahaaeenbahknaaRRRR
