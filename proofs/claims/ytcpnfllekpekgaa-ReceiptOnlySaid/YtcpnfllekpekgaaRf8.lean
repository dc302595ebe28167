/-
  The reference of chapter 2: Bytes.
-/
import Derived.Test.YtcpnfllekpekgaaRf7
namespace Go.Proofs.Ytcpnfllekpekgaa
open Go.RowKit

def bytesR (L : Bool) (l : List UInt8) : List UInt8 := if L = false ∧ l.length = 1 ∧ Ns.encT.rd1 l < 128 then l else Ns.head (if L = true then 192 else 128) l.length ++ l
set_option maxHeartbeats 2000000 in
set_option maxRecDepth 100000 in
theorem ref_bytes_core (L : Bool) (b c : Value) (w : World) (l : List UInt8) (hone : ∀ u ∈ [Value.bool L, b, c], u.oneCell' = true)
    (hbody : ∀ w', Below w.heap.size w w' → Calls Try.prog 30 #[.agg #[.bool L, b, c]] w' (PostB w' l)) (hl : l.length ≤ Ns.maxBytes) :
    Calls Try.prog 17 #[.agg #[.bool L, b, c]] w (PostB w (bytesR L l)) := by
  have hb0 : Blk (w.alloc (.cells #[.bool L, b, c] 38)) w.heap.size 38 #[.bool L, b, c] := Blk.new w _ _
  have hbe0 : Below w.heap.size w (w.alloc (.cells #[.bool L, b, c] 38)) := (Below.refl _ _).alloc (Nat.le_refl _) _
  have hs0 : (w.alloc (.cells #[.bool L, b, c] 38)).heap.size = w.heap.size + 1 := by simp
  have hbd := hbody _ hbe0
  have hl24 : (l.length : Int) ≤ 16777215 := by unfold Ns.maxBytes at hl; omega
  replace hbe0 := Lib.hid hbe0
  replace hs0 := Lib.hid hs0
  clear hbody
  go_enter Try.func17, Try.ntmps17
  go_wp2_with (refine wpList_load_row rfl 38 _ rfl w.heap.size rfl _ _ _ _ hb0 Try.underlying38 rfl info_item3 ?_)
  refine hbd.mono ?_
  rintro e w2 ⟨A1, m1, c1, rfl, hN⟩
  have hs0' := hs0.out
  have hb2 := hb0.below hN.2.2 (by omega)
  have hb2l := hb2.lt
  have g0 : w2.cell? ⟨w.heap.size, 0, none⟩ = some (.bool L) := hb2.cell 0
  have hbe2 := hbe0.out.trans (hN.2.2.mono (by omega))
  have hby := hN.bytes
  have hm1 := hN.1
  subst hm1
  have hnew : NewB w w2 A1 l.length c1 l := new_of rfl rfl hbe0.out hN.2.1 hN.2.2
  clear hbd hb0 hN hb2
  replace hnew := Lib.hid hnew
  replace hbe2 := Lib.hid hbe2
  have happ : ∀ (base : Nat) (w4 : World) (A4 : Option Addr) (m4 c4 : Nat), NewB w2 w4 A4 m4 c4 (Ns.head base l.length) → base + 58 < 256 → Bytes w4 w4.heap.size A1 l.length c1 l ∧ m4 ≤ 9 := by
    intro base w4 A4 m4 c4 h _
    refine ⟨hby.step h.2.2, ?_⟩
    rw [h.1, Ns.head_len]
    have := Wd.be_length 8 l.length
    split <;> omega
  have hfin : ∀ (base : Nat) (w4 w5 : World) (A4 A5 : Option Addr) (m4 c4 c5 : Nat), NewB w2 w4 A4 m4 c4 (Ns.head base l.length) → w5.ownsRow w2.heap.size 5 1 (.slice A5 (m4 + l.length) c5) (m4 + l.length) (bv (Ns.head base l.length ++ l)) → Below w2.heap.size w4 w5 → PostB w (Ns.head base l.length ++ l) (.returned (.slice A5 (m4 + l.length) c5)) w5 := by
    intro base w4 w5 A4 A5 m4 c4 c5 h ho hb
    exact ⟨A5, m4 + l.length, c5, rfl, new_of rfl (by rw [List.length_append, h.1]) hbe2.out ho (h.2.2.trans hb)⟩
  replace happ := Lib.hid happ
  replace hfin := Lib.hid hfin
  cases L with
  | true =>
    have hv : bytesR true l = Ns.head 192 l.length ++ l := by unfold bytesR; rw [if_neg (by simp), if_pos rfl]
    have hh := ref_head 192 l.length w2 (by omega) hl
    replace hv := Lib.hid hv
    go_wp2_with fail
    refine hh.mono ?_
    rintro e w4 ⟨A4, m4, c4, rfl, hN4⟩
    obtain ⟨hb4, hm9⟩ := happ.out 192 w4 A4 m4 c4 hN4 (by omega)
    have ho4 := hN4.2.1
    have hs4 := hN4.2.2.size
    replace hN4 := Lib.hid hN4
    clear hh g0
    go_wp2_with (at_builtin; refine wpList_append_u8 rfl _ _ rfl w2.heap.size _ m4 (Ns.head 192 l.length) rfl ho4 w4.heap.size _ _ _ l rfl hb4 (by omega) hs4 ?_; intro A6 c6 w6 hown6 hb6; replace hown6 := Lib.hid hown6; replace hb6 := Lib.hid hb6)
    go_ret
    rw [hv.out]
    exact hfin.out 192 w4 w6 A4 A6 m4 c4 c6 hN4.out hown6.out hb6.out
  | false =>
    by_cases hp : l.length = 1 ∧ Ns.encT.rd1 l < 128
    · have hv : bytesR false l = l := if_pos ⟨rfl, hp⟩
      replace hv := Lib.hid hv
      obtain ⟨h1, h2⟩ := hp
      obtain ⟨y, rfl⟩ : ∃ y, l = [y] := by
        cases l with
        | nil => simp at h1
        | cons y t => exact ⟨y, by rw [List.eq_nil_of_length_eq_zero (by simpa using h1 : t.length = 0)]⟩
      obtain ⟨g, o, u, rfl, _, hu, hcl⟩ := hby.reads.at_ (k := 0) (by simp)
      have hx' : u = .int .u8 (y.toNat : Int) := by simpa [bv] using hu.symm
      subst hx'
      rw [Nat.add_zero] at hcl
      have hy : (y.toNat : Int) < 128 := by have : y.toNat < 128 := h2; omega
      clear hu h1 h2 hl24
      simp only [List.length_singleton] at *
      go_wp2_with fail
      go_ret
      exact ⟨_, _, _, rfl, by rw [hv.out]; exact hnew.out⟩
    · have hv : bytesR false l = Ns.head 128 l.length ++ l := by unfold bytesR; rw [if_neg (fun e => hp e.2), if_neg (by simp)]
      have hh := ref_head 128 l.length w2 (by omega) hl
      replace hv := Lib.hid hv
      have fin2 : ∀ (w4 : World) (A4 : Option Addr) (m4 c4 : Nat), NewB w2 w4 A4 m4 c4 (Ns.head 128 l.length) → (Bytes w4 w4.heap.size A1 l.length c1 l ∧ m4 ≤ 9) ∧ w4.ownsRow w2.heap.size 5 1 (.slice A4 m4 c4) m4 (bv (Ns.head 128 l.length)) ∧ w2.heap.size ≤ w4.heap.size := fun w4 A4 m4 c4 h => ⟨happ.out 128 w4 A4 m4 c4 h (by omega), h.2.1, h.2.2.size⟩
      replace fin2 := Lib.hid fin2
      by_cases h1 : l.length = 1
      · obtain ⟨y, rfl⟩ : ∃ y, l = [y] := by
          cases l with
          | nil => simp at h1
          | cons y t => exact ⟨y, by rw [List.eq_nil_of_length_eq_zero (by simpa using h1 : t.length = 0)]⟩
        obtain ⟨g, o, u, rfl, _, hu, hcl⟩ := hby.reads.at_ (k := 0) (by simp)
        have hx' : u = .int .u8 (y.toNat : Int) := by simpa [bv] using hu.symm
        subst hx'
        rw [Nat.add_zero] at hcl
        have hy : ¬ (y.toNat : Int) < 128 := fun e => hp ⟨rfl, by show y.toNat < 128; omega⟩
        clear hu h1 hl24 hp
        simp only [List.length_singleton] at hh hby ⊢
        rw [show ((1 : Nat) : Int) = 1 from rfl] at hh
        go_wp2_with fail
        refine hh.mono ?_
        rintro e w4 ⟨A4, m4, c4, rfl, hN4⟩
        obtain ⟨⟨hb4, hm9⟩, ho4, hs4⟩ := fin2.out w4 A4 m4 c4 hN4
        replace hN4 := Lib.hid hN4
        clear hh g0 hcl
        go_wp2_with (at_builtin; refine wpList_append_u8 rfl _ _ rfl w2.heap.size _ m4 (Ns.head 128 1) rfl ho4 w4.heap.size _ _ _ [y] rfl hb4 (by omega) hs4 ?_; intro A6 c6 w6 hown6 hb6; replace hown6 := Lib.hid hown6; replace hb6 := Lib.hid hb6)
        go_ret
        rw [hv.out]
        exact hfin.out 128 w4 w6 A4 A6 m4 c4 c6 hN4.out hown6.out hb6.out
      · have h1' : ¬ (l.length : Int) = 1 := by omega
        go_wp2_with fail
        refine hh.mono ?_
        rintro e w4 ⟨A4, m4, c4, rfl, hN4⟩
        obtain ⟨⟨hb4, hm9⟩, ho4, hs4⟩ := fin2.out w4 A4 m4 c4 hN4
        replace hN4 := Lib.hid hN4
        clear hh g0
        go_wp2_with (at_builtin; refine wpList_append_u8 rfl _ _ rfl w2.heap.size _ m4 (Ns.head 128 l.length) rfl ho4 w4.heap.size _ _ _ l rfl hb4 (by omega) hs4 ?_; intro A6 c6 w6 hown6 hb6; replace hown6 := Lib.hid hown6; replace hb6 := Lib.hid hb6)
        go_ret
        rw [hv.out]
        exact hfin.out 128 w4 w6 A4 A6 m4 c4 c6 hN4.out hown6.out hb6.out
theorem ref_Bytes_all : ∀ (d : Nat), BytC d
  | 0 => fun S v x => nomatch x
  | d + 1 => by
    intro S v x w hsit hS hl
    have hbl := Ns.body_le (d + 1) x
    match x, hsit, hl, hbl with
    | .inl b, hsit, hl, hbl =>
      obtain ⟨A, n, c, rfl, hn, hc, hm, hin⟩ := hsit
      subst hn
      have hbl' : b.length ≤ (Ns.enc (d + 1) (.inl b)).length := hbl
      have hv : bytesR false b = Ns.enc (d + 1) (.inl b) := by
        show _ = Ns.encT b
        unfold bytesR Ns.encT
        by_cases h : b.length = 1 ∧ Ns.encT.rd1 b < 128
        · rw [if_pos h, if_pos ⟨rfl, h⟩]
        · rw [if_neg h, if_neg (fun e => h e.2), if_neg (by simp)]
      rw [← hv]
      have hB : Bytes w w.heap.size A b.length c b := ⟨rfl, hc, hm, hin.reads fun g _ h => h⟩
      refine ref_bytes_core false _ _ w b (by simp [Value.oneCell']) (fun w' hb => ?_) (by unfold Ns.maxBytes; omega)
      exact ref_body_text A b.length c b w' (hB.step hb) (by omega)
    | .inr xs, hsit, hl, hbl =>
      obtain ⟨A, n, c, vs, rfl, hn, hc, hm, hin, hall⟩ := hsit
      have hbl' : (xs.flatMap (Ns.enc d)).length ≤ (Ns.enc (d + 1) (.inr xs)).length := hbl
      have hv : bytesR true (xs.flatMap (Ns.enc d)) = Ns.enc (d + 1) (.inr xs) := by
        show _ = Ns.head 192 (xs.flatMap (Ns.enc d)).length ++ xs.flatMap (Ns.enc d)
        unfold bytesR
        rw [if_neg (by simp), if_pos rfl]
      rw [← hv]
      refine ref_bytes_core true _ _ w _ (by simp [Value.oneCell']) (fun w' hb => ?_) (by unfold Ns.maxBytes; omega)
      exact ref_body_list d (ref_Bytes_all d) S A n c vs xs w' (fun q h => Nat.lt_of_lt_of_le (hS q h) hb.size) hn hc hm (hin.move (fun q h1 h2 => ⟨h1, hb.block q h2⟩) hb.size) (hall.imp fun v x hx => hx.move _ _ _ (fun q h1 h2 => ⟨h1, hb.block q h2⟩) hb.size) (by omega)
end Go.Proofs.Ytcpnfllekpekgaa
