/-
  Package receipt: Encode.
-/
import Derived.Test.YtcpnfllekpekgaaLi2
import Derived.Test.YtcpnfllekpekgaaRc1
namespace Go.Proofs.Ytcpnfllekpekgaa
open Go.RowKit

def Rc.words (x : Rc) : List Nat := [x.s.toNat, x.g, x.r, x.m]
def Rc.item (x : Rc) : Ns.It 9 := .inr (wordsI x.words)
def Rc.bytes (x : Rc) : List UInt8 := Ns.enc 9 x.item
/-- a receipt that there is: its numbers have 64 bits -/
structure Rc.Real (x : Rc) : Prop where
  g : x.g < 18446744073709551616
  r : x.r < 18446744073709551616
  m : x.m < 18446744073709551616
theorem Rc.right_s {x : Rc} (h : x.right = true) : 0 ≤ x.s ∧ x.s ≤ 9 := by
  unfold Rc.right at h
  split at h
  · omega
  · split at h
    · omega
    · have := of_decide_eq_true h
      omega
theorem Rc.flat_len (x : Rc) : ((wordsI x.words).flatMap (Ns.enc 8)).length ≤ 36 := by
  have h : ∀ n, (Ns.enc 8 (Ns.tx (Wd.be 8 n) : Ns.It 8)).length ≤ 9 := by
    intro n
    show (Ns.encT (Wd.be 8 n)).length ≤ 9
    have := Wd.be_length 8 n
    rw [Ns.encT_len]
    split
    · omega
    · rw [if_pos (by omega)]; omega
  simp only [wordsI, Rc.words, List.map_cons, List.map_nil, List.flatMap_cons, List.flatMap_nil, List.length_append, List.length_nil]
  have h1 := h x.s.toNat
  have h2 := h x.g
  have h3 := h x.r
  have h4 := h x.m
  omega
theorem Rc.body_len (x : Rc) : (Ns.body 9 x.item).length ≤ 36 := x.flat_len
theorem Rc.bytes_eq (x : Rc) : x.bytes = Ns.head 192 ((wordsI x.words).flatMap (Ns.enc 8)).length ++ (wordsI x.words).flatMap (Ns.enc 8) := rfl
theorem Rc.bytes_len (x : Rc) : x.bytes.length ≤ 37 := by
  have h := x.flat_len
  rw [Rc.bytes_eq, List.length_append, Ns.head_len, if_pos (by omega)]
  omega
theorem Rc.fit (x : Rc) : Ns.fit 8 x.item := by
  refine ⟨Nat.le_trans x.flat_len (by unfold Ns.maxBytes; omega), fun y hy => ?_⟩
  obtain ⟨n, _, rfl⟩ := List.mem_map.1 hy
  have := Wd.be_length 8 n
  show Ns.fit 7 (Ns.tx _)
  rw [Ns.fit_tx]
  unfold Ns.maxBytes
  omega
theorem info_receipt : (Try.prog.info? 24).map (·.size) = some 4 := by kernel_rfl
set_option maxHeartbeats 1000000 in
set_option maxRecDepth 100000 in
theorem receipt_Encode (x : Rc) (hx : x.Real) (w : World) : Calls Try.prog 7 #[x.val] w (if x.right = true then PostBe w x.bytes 0 else PostBe w [] 180) := by
  by_cases hr : x.right = true
  · rw [if_pos hr]
    obtain ⟨h0, h9⟩ := Rc.right_s hr
    obtain ⟨s, g, r, m⟩ := x
    obtain ⟨k, rfl⟩ : ∃ k : Nat, s = k := ⟨s.toNat, by simp only at h0; omega⟩
    obtain ⟨hg, hrr, hm⟩ := hx
    simp only at h9 hg hrr hm
    have hR := receipt_Right ⟨k, g, r, m⟩ (w.alloc (.cells #[.int .i64 k, .int .u64 g, .int .u64 r, .int .u64 m] 24))
    rw [hr] at hR
    have hb := Blk.new w 24 #[.int .i64 k, .int .u64 g, .int .u64 r, .int .u64 m]
    have hs1 : (w.alloc (.cells #[.int .i64 k, .int .u64 g, .int .u64 r, .int .u64 m] 24)).heap.size = w.heap.size + 1 := by simp
    have hbe := (Below.refl w.heap.size w).alloc (Nat.le_refl _) (.cells #[.int .i64 k, .int .u64 g, .int .u64 r, .int .u64 m] 24)
    have hkw : IntKind.u64.wrap (k : Int) = k := by rw [IntKind.wrap_u64]; omega
    unfold Rc.val at *
    replace hs1 := Lib.hid hs1
    replace hbe := Lib.hid hbe
    go_enter Try.func7, Try.ntmps7
    go_wp2_with (refine wpList_load_row rfl 24 _ rfl w.heap.size rfl _ _ _ _ hb Try.underlying24 rfl info_receipt ?_)
    refine hR.mono ?_
    rintro e w1 ⟨rfl, hbe1⟩
    have hb1 := hb.below hbe1 (by have := hs1.out; omega)
    have hs2 := hbe1.size
    have hs1' := hs1.out
    have hbe2 := hbe.out.trans (hbe1.mono (by omega))
    have c0 : w1.cell? ⟨w.heap.size, 0, none⟩ = some (.int .i64 k) := hb1.cell 0
    have c1 : w1.cell? ⟨w.heap.size, 1, none⟩ = some (.int .u64 g) := hb1.cell 1
    have c2 : w1.cell? ⟨w.heap.size, 2, none⟩ = some (.int .u64 r) := hb1.cell 2
    have c3 : w1.cell? ⟨w.heap.size, 3, none⟩ = some (.int .u64 m) := hb1.cell 3
    have hlit : Reads (w1.alloc (.cells #[.int .u64 k, .int .u64 g, .int .u64 r, .int .u64 m] 22)) (w1.heap.size + 1) 1 (some ⟨w1.heap.size, 0, none⟩) 4 (u64v [k, g, r, m]) :=
      ⟨rfl, fun _ => ⟨w1.heap.size, 0, rfl, by omega, fun j u hu => by rw [Nat.zero_add, cell_of_row _ _ j #[.int .u64 k, .int .u64 g, .int .u64 r, .int .u64 m] 22 (0, 0) (heap_alloc_new w1 _), ← Array.getElem?_toList]; exact hu⟩⟩
    have hlist := receipt_list _ 4 4 _ [k, g, r, m] _ hlit (by simp) rfl (by omega) (by
      intro y hy
      simp only [List.mem_cons, List.not_mem_nil, or_false] at hy
      omega)
    have hbe3 := hbe2.alloc (by omega) (.cells #[.int .u64 k, .int .u64 g, .int .u64 r, .int .u64 m] 22)
    have hs3 : (w1.alloc (.cells #[.int .u64 k, .int .u64 g, .int .u64 r, .int .u64 m] 22)).heap.size = w1.heap.size + 1 := by simp
    clear hR hb hbe1 hlit
    replace hbe3 := Lib.hid hbe3
    replace hs3 := Lib.hid hs3
    go_wp2_with fail
    refine hlist.mono ?_
    rintro e w3 ⟨v, rfl, hv, hbe4⟩
    have hv2 : Sits (fun q => w1.heap.size ≤ q ∧ q < w3.heap.size) w3 9 v (.inr (wordsI [k, g, r, m])) := hv.move _ _ _ (fun q h1 h2 => ⟨⟨by have := hs3.out; omega, h2⟩, rfl⟩) (Nat.le_refl _)
    have hX : (Rc.mk k g r m).item = .inr (wordsI [k, g, r, m]) := rfl
    rw [← hX] at hv2
    have hen := nest_Encode _ v _ w3 hv2 (fun q h => h.2) (Rc.fit _) (by have := Rc.bytes_len ⟨k, g, r, m⟩; exact Nat.le_trans this (by omega)) (Nat.le_trans (Rc.body_len _) (by omega))
    have hbe5 := hbe3.out.trans (hbe4.mono (by have := hs3.out; omega))
    have hs4 := hbe4.size
    have hs6 : w.heap.size ≤ w3.heap.size := by have := hs3.out; omega
    clear hlist hv hbe4 hv2 hX c0 c1 c2 c3
    obtain ⟨bs, hbs⟩ : ∃ bs, bs = Ns.enc 9 (Rc.mk k g r m).item := ⟨_, rfl⟩
    rw [← hbs] at hen
    replace hbs := Lib.hid hbs
    replace hbe5 := Lib.hid hbe5
    go_wp2_with fail
    refine hen.mono ?_
    rintro e w4 ⟨A, n, c, rfl, hN⟩
    have hfin : NewB w w4 A n c bs := new_of rfl hN.1 hbe5.out hN.2.1 hN.2.2
    replace hfin := Lib.hid hfin
    clear hen hN
    go_wp2_with fail
    go_ret2
    exact ⟨A, n, c, rfl, by show NewB w w4 A n c (Ns.enc 9 _); rw [← hbs.out]; exact hfin.out⟩
  · rw [if_neg hr]
    obtain ⟨s, g, r, m⟩ := x
    have hR := receipt_Right ⟨s, g, r, m⟩ (w.alloc (.cells #[.int .i64 s, .int .u64 g, .int .u64 r, .int .u64 m] 24))
    rw [Bool.eq_false_iff.2 hr] at hR
    have hb := Blk.new w 24 #[.int .i64 s, .int .u64 g, .int .u64 r, .int .u64 m]
    have hs1 : (w.alloc (.cells #[.int .i64 s, .int .u64 g, .int .u64 r, .int .u64 m] 24)).heap.size = w.heap.size + 1 := by simp
    have hbe := (Below.refl w.heap.size w).alloc (Nat.le_refl _) (.cells #[.int .i64 s, .int .u64 g, .int .u64 r, .int .u64 m] 24)
    unfold Rc.val at *
    replace hs1 := Lib.hid hs1
    replace hbe := Lib.hid hbe
    go_enter Try.func7, Try.ntmps7
    go_wp2_with (refine wpList_load_row rfl 24 _ rfl w.heap.size rfl _ _ _ _ hb Try.underlying24 rfl info_receipt ?_)
    refine hR.mono ?_
    rintro e w1 ⟨rfl, hbe1⟩
    have hbe2 := hbe.out.trans (hbe1.mono (by have := hs1.out; omega))
    clear hR hb hbe1
    replace hbe2 := Lib.hid hbe2
    go_wp2_with fail
    go_ret2
    exact ⟨none, 0, 0, rfl, rfl, World.ownsRow_nil _ _ _ _, hbe2.out⟩
end Go.Proofs.Ytcpnfllekpekgaa
