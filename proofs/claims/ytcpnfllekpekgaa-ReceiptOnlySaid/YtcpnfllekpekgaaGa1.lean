/-
  Package words: Add; package receipt: Gas.
-/
import Derived.Test.YtcpnfllekpekgaaRc3
import Derived.Laws.Externs
namespace Go.Proofs.Ytcpnfllekpekgaa
open Go.RowKit

theorem add64_0 (x y : Int) (hx : 0 ≤ x) (hy : 0 ≤ y) (w : World) : (callFunc 43 #[.int .u64 x, .int .u64 y, .int .u64 0]).run Try.prog w =
    .ok (.value (.tuple #[.int .u64 ((x + y) % 18446744073709551616), .int .u64 ((x + y) / 18446744073709551616)])) w := by
  rw [run_callFunc_extern Try.func43 (by kernel_rfl) (by kernel_rfl) (by kernel_rfl) (e := add64Entry) (by kernel_rfl), run_add64 x y 0 hx hy (Int.le_refl 0) (by decide)]
  simp only [Result.andThen, Int.add_zero]
/-- a sum that has 64 bits -/
def sumV (n : Nat) : Value := if n < 18446744073709551616 then .tuple #[.int .u64 n, .bool true] else .tuple #[.int .u64 0, .bool false]
theorem words_Add (x y : Nat) (hx : x < 18446744073709551616) (hy : y < 18446744073709551616) (w : World) :
    Calls Try.prog 33 #[.int .u64 x, .int .u64 y] w fun e w' => e = .returned (sumV (x + y)) ∧ w = w' := by
  have ha := add64_0 x y (by omega) (by omega)
  by_cases h : x + y < 18446744073709551616
  · have e1 : ((x : Int) + y) % 18446744073709551616 = ((x + y : Nat) : Int) := by omega
    have e2 : ((x : Int) + y) / 18446744073709551616 = 0 := by omega
    rw [e1, e2] at ha
    have hv : sumV (x + y) = .tuple #[.int .u64 ((x + y : Nat) : Int), .bool true] := if_pos h
    generalize x + y = s at ha hv
    go_enter Try.func33, Try.ntmps33
    go_wp2_with (simp only [ha])
    go_ret2
    exact ⟨by rw [hv]; rfl, rfl⟩
  · have e2 : ((x : Int) + y) / 18446744073709551616 = 1 := by omega
    rw [e2] at ha
    have hv : sumV (x + y) = .tuple #[.int .u64 0, .bool false] := if_neg h
    generalize ((x : Int) + y) % 18446744073709551616 = s at ha
    go_enter Try.func33, Try.ntmps33
    go_wp2_with (simp only [ha])
    go_ret2
    exact ⟨by rw [hv]; rfl, rfl⟩
/-- receipts in memory -/
def rcv (rs : List Rc) : List Value := rs.flatMap fun r => r.row.toList
def gasOf : List Rc → Nat → Option Nat
  | [], s => some s
  | r :: rs, s => if s + r.g < 18446744073709551616 then gasOf rs (s + r.g) else none
def gasV (x : Option Nat) : Value := match x with
  | some n => .tuple #[.int .u64 n, .bool true]
  | none => .tuple #[.int .u64 0, .bool false]
theorem rcv_length (rs : List Rc) : (rcv rs).length = rs.length * 4 := by
  induction rs with
  | nil => rfl
  | cons r rs ih =>
    show (r.row.toList ++ rcv rs).length = _
    rw [List.length_append, ih, List.length_cons]
    show 4 + rs.length * 4 = _
    omega
theorem rcv_at : ∀ (rs : List Rc) (i : Nat) (h : i < rs.length) (j : Nat) (u : Value), rs[i].row.toList[j]? = some u → (rcv rs)[i * 4 + j]? = some u
  | r :: rs, 0, h, j, u, hu => by
    show (r.row.toList ++ rcv rs)[0 * 4 + j]? = some u
    have hj : j < r.row.toList.length := (List.getElem?_eq_some_iff.1 hu).1
    rw [Nat.zero_mul, Nat.zero_add, List.getElem?_append_left hj]
    exact hu
  | r :: rs, i + 1, h, j, u, hu => by
    show (r.row.toList ++ rcv rs)[(i + 1) * 4 + j]? = some u
    have hl : r.row.toList.length = 4 := rfl
    rw [List.getElem?_append_right (by omega), hl, show (i + 1) * 4 + j - 4 = i * 4 + j by omega]
    exact rcv_at rs i (by simpa using h) j u (by simpa using hu)
theorem gasOf_drop (rs : List Rc) (k : Nat) (h : k < rs.length) (s : Nat) : gasOf (rs.drop k) s = if s + rs[k].g < 18446744073709551616 then gasOf (rs.drop (k + 1)) (s + rs[k].g) else none := by
  rw [List.drop_eq_getElem_cons h]; rfl
structure GasI (wr : World) (row : Array Value) (w2 : World) : Prop where
  it : Blk w2 wr.heap.size 24 row
  bel : Below wr.heap.size wr w2
theorem gas_stored {wr : World} (row : Array Value) : GasI wr row ((wr.alloc (.cells rcZ 24)).setRow wr.heap.size row) :=
  ⟨(Blk.new wr 24 rcZ).row row, below_row ((Below.refl _ _).alloc (Nat.le_refl _) _) (Nat.le_refl _) _⟩
set_option maxHeartbeats 2000000 in
set_option maxRecDepth 100000 in
theorem receipt_Gas (A : Option Addr) (n c B : Nat) (rs : List Rc) (w : World) (hr : Reads w B 4 A n (rcv rs)) (hB : B ≤ w.heap.size) (hn : n = rs.length) (hc : n ≤ maxLen) (hx : ∀ r ∈ rs, r.Real) :
    Calls Try.prog 19 #[.slice A n c] w fun e w' => e = .returned (gasV (gasOf rs 0)) ∧ Below w.heap.size w w' := by
  subst hn
  have hn63 : (rs.length : Int) ≤ 9223372036854775807 := by unfold maxLen at hc; omega
  replace hr := Lib.hid hr
  replace hx := Lib.hid hx
  clear hc
  go_enter Try.func19, Try.ntmps19
  go_wp2_with fail
  go_loopw [4, 10] (fun v i wr => ∃ (k s : Nat), k ≤ rs.length ∧ i = .int .i64 k ∧ v = .int .u64 s ∧ s < 18446744073709551616 ∧ gasOf rs 0 = gasOf (rs.drop k) s ∧ Below w.heap.size w wr) (fun _ i _ => rs.length - (intOf i).toNat)
  case atStart => exact ⟨0, 0, Nat.zero_le _, rfl, rfl, by omega, rfl, Below.refl _ _⟩
  case round =>
    obtain ⟨k, s, hk, rfl, rfl, hs, hgas, hbw⟩ := hrel
    have hbs := hbw.size
    by_cases hlt : k < rs.length
    · obtain ⟨g, o, rfl, hg, hcl⟩ := hr.out.2 (by omega)
      have hrl := hx.out _ (List.getElem_mem hlt)
      have hd := gasOf_drop rs k hlt s
      have hrg2 : wr.rangeAt g (o + k * 4) rs[k].row.toList := fun j u hu => by
        rw [Nat.add_assoc]
        exact (hbw.cell (p := ⟨g, _, none⟩) (by show g < _; omega)).trans (hcl _ u (rcv_at rs k hlt j u hu))
      generalize rs[k] = r at *
      have ha := words_Add s r.g hs hrl.g
      have hst := gas_stored (wr := wr) r.row
      obtain ⟨rs', rg, rr, rm⟩ := r
      have hrg3 : wr.rangeAt g (o + k * 4) [.int .i64 rs', .int .u64 rg, .int .u64 rr, .int .u64 rm] := hrg2
      unfold Rc.row at hst
      simp only at ha hd hst
      have hlt' : (k : Int) < (rs.length : Int) := by omega
      replace hst := Lib.hid hst
      replace hgas := Lib.hid hgas
      replace hd := Lib.hid hd
      replace hbw := Lib.hid hbw
      clear hrg2 hcl hrl
      go_wp2_with (first
        | (refine wpList_load_mid rfl 24 _ rfl g (o + k * 4) rfl [.int .i64 rs', .int .u64 rg, .int .u64 rr, .int .u64 rm] _ hrg3 Try.underlying24 rfl info_receipt ?_)
        | (refine wpList_store_row rfl 24 _ _ rfl wr.heap.size #[.int .i64 rs', .int .u64 rg, .int .u64 rr, .int .u64 rm] rfl rfl _ _ (Blk.new wr 24 rcZ) info_receipt rfl (by simp [Value.oneCell']) ?_; refine list_at (GasI wr _) hst.out ?_; intro w4 hI4; have e1 : w4.cell? ⟨wr.heap.size, 1, none⟩ = some (.int .u64 rg) := hI4.it.cell 1; replace hI4 := Lib.hid hI4)
        | fail)
      refine (ha w4).mono ?_
      rintro e w5 ⟨rfl, rfl⟩
      have hb5 := hbw.out.trans (hI4.out.bel.mono hbs)
      replace hb5 := Lib.hid hb5
      clear ha e1 hrg3 hst
      unfold sumV
      by_cases hsum : s + rg < 18446744073709551616
      · rw [if_pos hsum]
        have hg2 := Lib.hid (hgas.out.trans (hd.out.trans (if_pos hsum)))
        clear hgas hd
        go_wp2_with fail
        refine ⟨⟨k + 1, s + rg, by omega, by go_num, by go_num, hsum, hg2.out, hb5.out⟩, ?_⟩
        simp [intOf]; omega
      · rw [if_neg hsum]
        have hg2 := Lib.hid (hgas.out.trans (hd.out.trans (if_neg hsum)))
        clear hgas hd
        go_wp2_with fail
        go_ret2
        exact ⟨by rw [hg2.out]; rfl, hb5.out⟩
    · obtain rfl : k = rs.length := by omega
      rw [List.drop_length] at hgas
      replace hgas := Lib.hid hgas
      replace hbw := Lib.hid hbw
      go_wp2_with fail
      go_ret2
      exact ⟨by rw [hgas.out]; rfl, hbw.out⟩
end Go.Proofs.Ytcpnfllekpekgaa
