/-
  Package nest, what writes: bodies above 55 bytes.
-/
import Derived.Test.YtahaaeenbahknaaRRRRNe5
namespace Go.Proofs.YtahaaeenbahknaaRRRR
open Go.RowKit

theorem u8_toNat' (z : Nat) (h : z < 256) : (UInt8.ofNat z).toNat = z := by simp; omega
theorem be_byte (n : Nat) (h : n < 16777216) : ∀ i, i < (Wd.be 8 n).length → (Wd.be 8 n)[(Wd.be 8 n).length - 1 - i]? = some (UInt8.ofNat (n / 256 ^ i % 256)) := by
  intro i hi
  rcases Nat.eq_zero_or_pos n with h0 | h0
  · subst h0; simp [Wd.be] at hi
  rcases Nat.lt_or_ge n 256 with h1 | h1
  · rw [Wd.be_one 7 n h0 h1] at hi ⊢
    simp at hi; subst hi
    simp
    rw [Nat.mod_eq_of_lt h1]
  rcases Nat.lt_or_ge n 65536 with h2 | h2
  · rw [Wd.be_two 6 n h1 h2] at hi ⊢
    match i, hi with
    | 0, _ => simp
    | 1, _ => simp; rw [Nat.mod_eq_of_lt (by omega)]
  · rw [Wd.be_three 5 n h2 h] at hi ⊢
    match i, hi with
    | 0, _ => simp
    | 1, _ => simp
    | 2, _ => simp; rw [Nat.mod_eq_of_lt (by omega)]
set_option maxHeartbeats 1000000 in
set_option maxRecDepth 100000 in
theorem write_text_long (A : Option Addr) (m c B : Nat) (l : List UInt8) (A2 : Option Addr) (n c2 : Nat) (b : List UInt8) (w : World) (hown : w.ownsRow B 5 1 (.slice A m c) m (bv l)) (hm : m = l.length) (hB : B ≤ w.heap.size)
    (hb : Bytes w B A2 n c2 b) (h55 : 55 < n) (h24 : n ≤ 16777215) (hlim : m + n + 4 ≤ 140737488355328) :
    Calls Try.prog 32 #[.slice A m c, txV A2 n c2] w (WrQ w B (.slice A m c) (l ++ [UInt8.ofNat (128 + 55 + (Wd.be 8 n).length)] ++ Wd.be 8 n ++ b)) := by
  have hI := WrI.start (row := #[.bool false, .slice A2 n c2, .slice none 0 0]) hown hm
  have hbq : ∀ q, (Value.slice A m c).ownBlock = some q → B ≤ q := fun q e => (hown.lt q e).1
  replace hbq := Lib.hid hbq
  have h0 : ∀ q, (Value.slice A m c).ownBlock = some q → q < w.heap.size := fun q e => (hown.lt q e).2
  have hb1 := hb.alloc hB (.cells #[.bool false, .slice A2 n c2, .slice none 0 0] 46)
  have hp := plain_text A2 n c2 _ b _ hb1
  have hbn := hb.len
  rw [decide_eq_false (by omega)] at hp
  have hbd := body_text A2 n c2
  replace hI := Lib.hid hI
  replace hb1 := Lib.hid hb1
  replace h0 := Lib.hid h0
  replace hm := Lib.hid hm
  replace hbn := Lib.hid hbn
  clear hown
  replace hb := Lib.hid hb
  unfold txV at hp hbd ⊢
  go_enter Try.func32, Try.ntmps32
  go_wp2_with fail
  refine hp.mono ?_
  rintro e w1 ⟨rfl, hbe⟩
  have hI1 := Lib.hid (hI.out.below hbe)
  have k1 := Lib.hid hI1.out.box
  have g1 : w1.cell? ⟨w.heap.size, 1, none⟩ = some (.slice A2 n c2) := hI1.out.box.cell 1
  have g0 : w1.cell? ⟨w.heap.size, 0, none⟩ = some (.bool false) := hI1.out.box.cell 0
  have hb2 := Lib.hid (hb1.out.below (hbe.mono (by simp; omega)))
  clear hp hbe hI hb1
  go_wp2_with (refine wpList_load_row rfl 46 _ rfl w.heap.size rfl _ _ _ _ k1.out Try.underlying46 rfl info_item3 ?_)
  refine (hbd w1 (by unfold maxLen; omega)).mono ?_
  rintro e w2 ⟨rfl, hbe2⟩
  have hI2 := Lib.hid (hI1.out.below hbe2)
  have hsz2 := hI1.out.gr.size
  have hb3 := Lib.hid (hb2.out.below (hbe2.mono (Nat.le_trans hB hsz2)))
  clear hbd g0 g1 k1 hI1 hb2 hbe2
  go_wp2_with fail
  have h55' : ¬ (n : Int) ≤ 55 := by omega
  refine (nest_number n w2 (by omega)).mono ?_
  rintro e w2b ⟨rfl, rfl⟩
  obtain ⟨K, hK⟩ : ∃ K, K = (Wd.be 8 n).length := ⟨_, rfl⟩
  have hK13 : 1 ≤ K ∧ K ≤ 3 := by rw [hK]; exact Ns.be_short n (by omega) (by unfold Ns.maxBytes; omega)
  have hbyte := be_byte n (by omega)
  have hbeL : (Wd.be 8 n).length = K := hK.symm
  generalize Wd.be 8 n = be at *
  rw [hbeL]
  obtain ⟨hK1, hK3⟩ := hK13
  have hlit := hI2.out.alloc (.cells #[.int .u8 (128 + 55 + (K : Int))] 5)
  have hsrc := Bytes.lit1 (w := w2) (t := 5) (z := 128 + 55 + (K : Int)) (y := UInt8.ofNat (128 + 55 + K)) (by simp; omega)
  replace hlit := Lib.hid hlit
  replace hbyte := Lib.hid hbyte
  replace hbeL := Lib.hid hbeL
  replace hK := Lib.hid hK
  have hk63 : IntKind.u8.wrap (128 + 55 + (K : Int)) = 128 + 55 + (K : Int) := by rw [IntKind.wrap_u8]; omega
  go_wp2_with (at_builtin; refine wpList_append_wr rfl _ _ rfl hlit.out rfl h0.out hB rfl _ _ _ _ [UInt8.ofNat (128 + 55 + K)] rfl hsrc (by omega) ?_; intro A3 c3 w3 hI3 hs3; clear hlit hsrc; replace hI3 := Lib.hid hI3)
  have hmo := hI3.out.len
  have hKw : IntKind.i64.wrap ((K : Int) - 1) = (K : Int) - 1 := by rw [IntKind.wrap_i64]; omega
  clear hmo hk63 hI2 hsz2
  go_loopw [0, 8] (fun v i wr => ∃ (j m' : Nat) (A' : Option Addr) (c' : Nat), j ≤ K ∧ i = .int .i64 ((j : Int) - 1) ∧ v = .slice A' m' c' ∧ WrI w (Value.slice A m c).ownBlock B w.heap.size #[.bool false, .slice A2 n c2, .slice none 0 0] wr A' m' c' (l ++ [UInt8.ofNat (128 + 55 + K)] ++ be.take (K - j))) (fun _ i _ => (intOf i + 1).toNat)
  case atStart =>
    refine ⟨K, _, _, _, Nat.le_refl _, rfl, rfl, ?_⟩
    have := hI3.out
    rw [Nat.sub_self, List.take_zero, List.append_nil]
    exact this
  case round =>
    clear hI3 hs3
    obtain ⟨j, m', A', c', hj, rfl, rfl, hI⟩ := hrel
    by_cases hj0 : 0 < j
    · obtain ⟨t, rfl⟩ : ∃ t, j = t + 1 := ⟨j - 1, by omega⟩
      have hbe0 := hbeL.out
      have hby := hbyte.out t (by omega)
      rw [hbe0, List.getElem?_eq_getElem (by omega)] at hby
      injection hby with hby
      have htk : be.take (K - t) = be.take (K - (t + 1)) ++ [be[K - 1 - t]] := by
        rw [show K - t = (K - (t + 1)) + 1 by omega, List.take_succ_eq_append_getElem (by omega)]
        congr 3; omega
      have ht3 : t < 3 := by omega
      have e1 : ((t + 1 : Nat) : Int) - 1 = (t : Int) := by omega
      rw [e1]
      have hpos : ¬ (t : Int) < 0 := by omega
      have h8w : IntKind.i64.wrap (8 * (t : Int)) = 8 * (t : Int) := by rw [IntKind.wrap_i64]; omega
      replace hby := Lib.hid hby
      replace htk := Lib.hid htk
      replace hI := Lib.hid hI
      replace hbe0 := Lib.hid hbe0
      clear e1
      have hml := hI.out.len
      simp only [List.length_append, List.length_cons, List.length_nil, List.length_take] at hml
      have hlo := hm.out
      have hbo := hbeL.out
      have hml2 : m' + 1 ≤ 140737488355328 := by omega
      have hlit := hI.out.alloc (.cells #[.int .u8 ((n : Int) / 2 ^ (8 * t) % 256)] 5)
      have hz : ((n : Int) / 2 ^ (8 * t) % 256) = ((be[K - 1 - t]'(by have := hbe0.out; omega)).toNat : Int) := by
        rw [hby.out, u8_toNat' _ (Nat.mod_lt _ (by omega)), show (256 : Nat) = 2 ^ 8 from rfl, ← Nat.pow_mul]
        norm_cast
      have hsrc := Bytes.lit1 (w := wr) (t := 5) hz
      clear hml hlo hbo hz
      replace hlit := Lib.hid hlit
      go_wp2_with (at_builtin; refine wpList_append_wr rfl _ _ rfl hlit.out rfl h0.out hB rfl _ _ _ _ [be[K - 1 - t]'(by have := hbe0.out; omega)] rfl hsrc hml2 ?_; intro A5 c5 w5 hI5 hs5; clear hlit hsrc; replace hI5 := Lib.hid hI5)
      refine ⟨⟨t, _, _, _, by omega, rfl, rfl, ?_⟩, ?_⟩
      · rw [htk.out, ← List.append_assoc]; exact hI5.out
      · simp [intOf] <;> omega
    · obtain rfl : j = 0 := by omega
      rw [Nat.sub_zero, List.take_of_length_le (by have := hbeL.out; omega)] at hI
      have hj1 : (((0 : Nat) : Int) - 1) < 0 := by omega
      have hml := hI.len
      simp only [List.length_append, List.length_cons, List.length_nil] at hml
      have hbo := hbeL.out
      have hmo := hm.out
      have hm4 : m' ≤ m + 4 := by omega
      clear hml hbo hmo
      have hb4 := Lib.hid (hb.out.below (hI.bel hB hbq.out))
      have g1 : wr.cell? ⟨w.heap.size, 1, none⟩ = some (.slice A2 n c2) := hI.box.cell 1
      replace hI := Lib.hid hI
      go_wp2_with (at_builtin; refine wpList_append_wr rfl _ _ rfl hI.out rfl h0.out hB rfl _ _ _ _ b rfl hb4.out (by omega) ?_; intro A4 c4 w4 hI4 hs4; have g2 := hI4.box.cell 2; simp at g2; replace hI4 := Lib.hid hI4)
      refine wp_loop_rounds 1 ?_
      rw [rounds_succ]; go_wp2_with fail
      go_ret
      rw [hbeL.out]
      exact hI4.out.out

/-- the contract of write on items of one depth, below B, of any length that may be -/
def WriteA (d : Nat) : Prop := ∀ (S : Nat → Prop) (A : Option Addr) (m c B : Nat) (l : List UInt8) (v : Value) (x : Ns.It d) (w : World), w.ownsRow B 5 1 (.slice A m c) m (bv l) → m = l.length → B ≤ w.heap.size →
  (∀ q, S q → q < B) → Sits S w d v x → m + (Ns.enc d x).length + 8 ≤ 140737488355328 → (Ns.body d x).length ≤ 16777215 →
  Calls Try.prog 32 #[.slice A m c, v] w (WrQ w B (.slice A m c) (l ++ Ns.enc d x))
set_option maxHeartbeats 2000000 in
set_option maxRecDepth 100000 in
theorem write_list_long (d : Nat) (hw : WriteA d) (S : Nat → Prop) (A : Option Addr) (m c B : Nat) (l : List UInt8) (A2 : Option Addr) (n c2 : Nat) (vs : List Value) (xs : List (Ns.It d)) (w : World)
    (hown : w.ownsRow B 5 1 (.slice A m c) m (bv l)) (hm : m = l.length) (hB : B ≤ w.heap.size) (hS : ∀ q, S q → q < B) (hn : n = xs.length) (hc : n ≤ c2) (hcm : c2 ≤ maxLen) (hin : InS S w 3 A2 n (flat vs)) (hall : All2 (Sits S w d) vs xs)
    (L : Nat) (hL : L = (xs.flatMap (Ns.enc d)).length) (h55 : 55 < L) (h24 : L ≤ 16777215) (hlim : m + L + 1 + (Wd.be 8 L).length + 8 ≤ 140737488355328) :
    Calls Try.prog 32 #[.slice A m c, lsV A2 n c2] w (WrQ w B (.slice A m c) (l ++ [UInt8.ofNat (192 + 55 + (Wd.be 8 L).length)] ++ Wd.be 8 L ++ xs.flatMap (Ns.enc d))) := by
  have hI := WrI.start (row := #[.bool true, .slice none 0 0, .slice A2 n c2]) hown hm
  have hbq : ∀ q, (Value.slice A m c).ownBlock = some q → B ≤ q := fun q e => (hown.lt q e).1
  have h0 : ∀ q, (Value.slice A m c).ownBlock = some q → q < w.heap.size := fun q e => (hown.lt q e).2
  have hp := plain_list A2 n c2 (w.alloc (.cells #[.bool true, .slice none 0 0, .slice A2 n c2] 46))
  have hbd : ∀ w', Below w.heap.size w w' → Calls Try.prog 31 #[lsV A2 n c2] w' fun e w'' => e = .returned (.int .i64 L) ∧ Below w'.heap.size w' w'' := fun w' hb => by
    rw [hL]
    exact body_list d (whole_all d) S A2 n c2 vs xs w' hn hc hcm (hin.move (fun q h1 h2 => ⟨h1, hb.block q h2⟩) hb.size) (hall.imp fun v x hx => hx.move _ _ _ (fun q h1 h2 => ⟨h1, hb.block q h2⟩) hb.size) (by omega)
  replace hI := Lib.hid hI
  replace h0 := Lib.hid h0
  replace hbq := Lib.hid hbq
  replace hin := Lib.hid hin
  replace hall := Lib.hid hall
  have hn63 : (n : Int) ≤ 9223372036854775807 := by unfold maxLen at hcm; omega
  replace hL := Lib.hid hL
  replace hn := Lib.hid hn
  replace hw := Lib.hid hw
  replace hm := Lib.hid hm
  clear hown hc hcm
  unfold lsV at hp hbd ⊢
  go_enter Try.func32, Try.ntmps32
  go_wp2_with fail
  refine hp.mono ?_
  rintro e w1 ⟨rfl, hbe⟩
  have hI1 := Lib.hid (hI.out.below hbe)
  have k1 := Lib.hid hI1.out.box
  have g0 : w1.cell? ⟨w.heap.size, 0, none⟩ = some (.bool true) := hI1.out.box.cell 0
  have hbd1 := hbd w1 (((Below.refl _ _).alloc (Nat.le_refl _) _).trans (hbe.mono (by simp)))
  clear hp hbe hI hbd
  go_wp2_with (refine wpList_load_row rfl 46 _ rfl w.heap.size rfl _ _ _ _ k1.out Try.underlying46 rfl info_item3 ?_)
  refine hbd1.mono ?_
  rintro e w2 ⟨rfl, hbe2⟩
  have hI2 := Lib.hid (hI1.out.below hbe2)
  have hsz2 := hI2.out.gr.size
  clear hbd1 g0 k1 hI1 hbe2
  go_wp2_with fail
  have h55' : ¬ (L : Int) ≤ 55 := by omega
  refine (nest_number L w2 (by omega)).mono ?_
  rintro e w2b ⟨rfl, rfl⟩
  obtain ⟨K, hK⟩ : ∃ K, K = (Wd.be 8 L).length := ⟨_, rfl⟩
  have hK13 : 1 ≤ K ∧ K ≤ 3 := by rw [hK]; exact Ns.be_short L (by omega) (by unfold Ns.maxBytes; omega)
  have hbyte := be_byte L (by omega)
  have hbeL : (Wd.be 8 L).length = K := hK.symm
  generalize Wd.be 8 L = be at *
  rw [hbeL]
  obtain ⟨hK1, hK3⟩ := hK13
  have hlit := hI2.out.alloc (.cells #[.int .u8 (192 + 55 + (K : Int))] 5)
  have hsrc := Bytes.lit1 (w := w2) (t := 5) (z := 192 + 55 + (K : Int)) (y := UInt8.ofNat (192 + 55 + K)) (by simp; omega)
  replace hlit := Lib.hid hlit
  replace hbyte := Lib.hid hbyte
  replace hbeL := Lib.hid hbeL
  replace hK := Lib.hid hK
  have hk63 : IntKind.u8.wrap (192 + 55 + (K : Int)) = 192 + 55 + (K : Int) := by rw [IntKind.wrap_u8]; omega
  go_wp2_with (at_builtin; refine wpList_append_wr rfl _ _ rfl hlit.out rfl h0.out hB rfl _ _ _ _ [UInt8.ofNat (192 + 55 + K)] rfl hsrc (by omega) ?_; intro A3 c3 w3 hI3 hs3; clear hlit hsrc; replace hI3 := Lib.hid hI3)
  have hmo := hI3.out.len
  have hKw : IntKind.i64.wrap ((K : Int) - 1) = (K : Int) - 1 := by rw [IntKind.wrap_i64]; omega
  clear hmo hk63 hI2 hsz2
  go_loopw [0, 8] (fun v i wr => ∃ (j m' : Nat) (A' : Option Addr) (c' : Nat), j ≤ K ∧ i = .int .i64 ((j : Int) - 1) ∧ v = .slice A' m' c' ∧ WrI w (Value.slice A m c).ownBlock B w.heap.size #[.bool true, .slice none 0 0, .slice A2 n c2] wr A' m' c' (l ++ [UInt8.ofNat (192 + 55 + K)] ++ be.take (K - j))) (fun _ i _ => (intOf i + 1).toNat)
  case atStart =>
    refine ⟨K, _, _, _, Nat.le_refl _, rfl, rfl, ?_⟩
    have := hI3.out
    rw [Nat.sub_self, List.take_zero, List.append_nil]
    exact this
  case round =>
    clear hI3 hs3
    obtain ⟨j, m', A', c', hj, rfl, rfl, hI⟩ := hrel
    by_cases hj0 : 0 < j
    · obtain ⟨t, rfl⟩ : ∃ t, j = t + 1 := ⟨j - 1, by omega⟩
      have hbe0 := hbeL.out
      have hby := hbyte.out t (by omega)
      rw [hbe0, List.getElem?_eq_getElem (by omega)] at hby
      injection hby with hby
      have htk : be.take (K - t) = be.take (K - (t + 1)) ++ [be[K - 1 - t]] := by
        rw [show K - t = (K - (t + 1)) + 1 by omega, List.take_succ_eq_append_getElem (by omega)]
        congr 3; omega
      have ht3 : t < 3 := by omega
      have e1 : ((t + 1 : Nat) : Int) - 1 = (t : Int) := by omega
      rw [e1]
      have hpos : ¬ (t : Int) < 0 := by omega
      have h8w : IntKind.i64.wrap (8 * (t : Int)) = 8 * (t : Int) := by rw [IntKind.wrap_i64]; omega
      replace hby := Lib.hid hby
      replace htk := Lib.hid htk
      replace hI := Lib.hid hI
      replace hbe0 := Lib.hid hbe0
      clear e1
      have hml := hI.out.len
      simp only [List.length_append, List.length_cons, List.length_nil, List.length_take] at hml
      have hlo := hm.out
      have hbo := hbeL.out
      have hml2 : m' + 1 ≤ 140737488355328 := by omega
      have hlit := hI.out.alloc (.cells #[.int .u8 ((L : Int) / 2 ^ (8 * t) % 256)] 5)
      have hz : ((L : Int) / 2 ^ (8 * t) % 256) = ((be[K - 1 - t]'(by have := hbe0.out; omega)).toNat : Int) := by
        rw [hby.out, u8_toNat' _ (Nat.mod_lt _ (by omega)), show (256 : Nat) = 2 ^ 8 from rfl, ← Nat.pow_mul]
        norm_cast
      have hsrc := Bytes.lit1 (w := wr) (t := 5) hz
      clear hml hlo hbo hz
      replace hlit := Lib.hid hlit
      go_wp2_with (at_builtin; refine wpList_append_wr rfl _ _ rfl hlit.out rfl h0.out hB rfl _ _ _ _ [be[K - 1 - t]'(by have := hbe0.out; omega)] rfl hsrc hml2 ?_; intro A5 c5 w5 hI5 hs5; clear hlit hsrc; replace hI5 := Lib.hid hI5)
      refine ⟨⟨t, _, _, _, by omega, rfl, rfl, ?_⟩, ?_⟩
      · rw [htk.out, ← List.append_assoc]; exact hI5.out
      · simp [intOf] <;> omega
    · obtain rfl : j = 0 := by omega
      rw [Nat.sub_zero, List.take_of_length_le (by have := hbeL.out; omega)] at hI
      have hj1 : (((0 : Nat) : Int) - 1) < 0 := by omega
      have hml := hI.len
      simp only [List.length_append, List.length_cons, List.length_nil] at hml
      have hbo := hbeL.out
      have hmo := hm.out
      have hm4 : m' ≤ m + 4 := by omega
      clear hml hbo hmo
      have g1 : wr.cell? ⟨w.heap.size, 1, none⟩ = some (.slice none 0 0) := hI.box.cell 1
      replace hI := Lib.hid hI
      go_wp2_with (at_builtin; refine wpList_append_wr rfl _ _ rfl hI.out rfl h0.out hB rfl 0 _ _ _ [] rfl (Bytes.none_ _ _ _ (Nat.zero_le _)) (by omega) ?_; intro A4 c4 w4 hI4 hs4; clear g1; have g2 := hI4.box.cell 2; simp at g2; replace hI4 := Lib.hid hI4)
      clear hI
      have hstep : ∀ k (hk : k < xs.length), (xs.take (k + 1)).flatMap (Ns.enc d) = (xs.take k).flatMap (Ns.enc d) ++ Ns.enc d xs[k] := by
        intro k hk
        rw [List.take_succ_eq_append_getElem hk, List.flatMap_append]
        simp
      have hle : ∀ k, ((xs.take k).flatMap (Ns.enc d)).length ≤ (xs.flatMap (Ns.enc d)).length := by
        intro k
        have h1 := congrArg (fun l => (List.flatMap (Ns.enc d) l).length) (List.take_append_drop k xs)
        simp only [List.flatMap_append, List.length_append] at h1
        omega
      replace hstep := Lib.hid hstep
      replace hle := Lib.hid hle
      replace hS := Lib.hid hS
      go_loopw [0, 61] (fun v i wr => ∃ (k m' : Nat) (A' : Option Addr) (c' : Nat), k ≤ xs.length ∧ i = .int .i64 k ∧ v = .slice A' m' c' ∧ WrI w (Value.slice A m c).ownBlock B w.heap.size #[.bool true, .slice none 0 0, .slice A2 n c2] wr A' m' c' (l ++ [UInt8.ofNat (192 + 55 + K)] ++ be ++ (xs.take k).flatMap (Ns.enc d))) (fun _ i _ => xs.length - (intOf i).toNat)
      case atStart =>
        refine ⟨0, _, _, _, Nat.zero_le _, rfl, rfl, ?_⟩
        have := hI4.out
        simpa using this
      case round =>
        clear hI4 g2
        obtain ⟨k, m', A', c', hk, rfl, rfl, hI⟩ := hrel
        by_cases hlt : k < xs.length
        · have hbel := hI.bel hB hbq.out
          obtain ⟨g, o, a, b, cc, rfl, hSg, hg, hrg, hone, hsit⟩ := items_at (hin.out.move (S' := S) (fun q h1 h2 => ⟨h1, hbel.block q (hS.out q h1)⟩) hbel.size) (hall.out.imp fun v x hx => hx.move (S' := S) _ _ _ (fun q h1 h2 => ⟨h1, hbel.block q (hS.out q h1)⟩) hbel.size) hn.out k hlt
          have hrg2 : wr.rangeAt g (o + k * 3) [a, b, cc] := by rw [Nat.mul_comm k 3]; exact hrg
          have hIr := hI.rowed (Nat.le_refl wr.heap.size) rowZ #[a, b, cc]
          have hsit2 : Sits S ((wr.alloc (.cells rowZ 46)).setRow wr.heap.size #[a, b, cc]) d (.agg #[a, b, cc]) xs[k] :=
            hsit.move _ _ _ (fun q h1 h2 => ⟨h1, (setRow_other _ _ q _ (by omega)).trans (Below.heap_alloc wr _ q h2)⟩) (by simp)
          have hs1 := hle.out (k + 1)
          rw [hstep.out k hlt, List.length_append] at hs1
          have hml := hI.len
          simp only [List.length_append, List.length_cons, List.length_nil, hbeL.out] at hml
          have hLo := hL.out
          have hmo := hm.out
          have hbo := hbeL.out
          have hcall := hw.out S A' m' c' B _ _ xs[k] _ hIr.own hIr.len (by have := hIr.gr.size; omega) hS.out hsit2 (by omega) (by have := Ns.body_le d xs[k]; omega)
          have hbx : w.heap.size = w.heap.size := rfl
          clear hbel hrg hsit hsit2 hs1 hLo hml hmo hbo
          replace hI := Lib.hid hI
          replace hIr := Lib.hid hIr
          have hlt' : (k : Int) < n := by have := hn.out; omega
          go_wp2_with (first
            | (refine wpList_load_mid rfl 46 _ rfl g (o + k * 3) rfl [a, b, cc] _ hrg2 Try.underlying46 rfl info_item3 ?_)
            | (refine wpList_store_row rfl 46 _ _ rfl wr.heap.size #[a, b, cc] rfl rfl _ _ (Blk.new wr 46 rowZ) info_item3 rfl (by simpa using hone) ?_)
            | (refine wpList_load_row rfl 46 _ rfl wr.heap.size rfl _ _ _ _ ((Blk.new wr 46 rowZ).row #[a, b, cc]) Try.underlying46 rfl info_item3 ?_)
            | fail)
          refine hcall.mono ?_
          intro e w2 hq
          obtain ⟨A5, m5, c5, rfl, hI5⟩ := hIr.out.call rfl h0.out hq
          replace hI5 := Lib.hid hI5
          clear hcall hq
          go_wp2_with fail
          refine ⟨⟨k + 1, _, _, _, by omega, by go_num, rfl, ?_⟩, ?_⟩
          · rw [hstep.out k hlt, ← List.append_assoc]; exact hI5.out
          · simp [intOf]; omega
        · obtain rfl : k = xs.length := by omega
          rw [List.take_length] at hI
          replace hI := Lib.hid hI
          have hlt' : ¬ (xs.length : Int) < n := by have := hn.out; omega
          go_wp2_with fail
          go_ret
          have := hI.out.out
          rw [hbeL.out]
          simp only [List.append_assoc, List.singleton_append, UInt8.ofNat_add, UInt8.reduceOfNat, UInt8.reduceAdd] at this ⊢
          exact this

end Go.Proofs.YtahaaeenbahknaaRRRR
