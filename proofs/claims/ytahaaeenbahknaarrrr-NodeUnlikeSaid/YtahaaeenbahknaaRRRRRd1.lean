/-
  The reader of package nest: fail, take, size.
-/
import Derived.Test.YtahaaeenbahknaaRRRRItM
namespace Go.Proofs.YtahaaeenbahknaaRRRR
open Go.RowKit

/-- a reader: bytes that lie below it, and no error -/
structure RdIs (w : World) (g : Nat) (A : Option Addr) (n c : Nat) (l : List UInt8) : Prop where
  cells : Blk w g 79 #[.slice A n c, .int .i64 0]
  txt : Bytes w g A n c l
/-- a reader at which something is amiss -/
def RdBad (w : World) (g : Nat) (k : Int) : Prop := ∃ A n c, Blk w g 79 #[.slice A n c, .int .i64 k]
theorem rd_fail (g : Nat) (s : Value) (k : Int) (w : World) (h : Blk w g 79 #[s, .int .i64 0]) :
    Calls Try.prog 49 #[.pointer (some ⟨g, 0, none⟩), .int .i64 k] w fun e w' => e = .returned itemZ ∧ Blk w' g 79 #[s, .int .i64 k] ∧ w.grownBy w' (some g) := by
  have hg := h.lt
  have g1 : w.cell? ⟨g, 1, none⟩ = some (.int .i64 0) := h.cell 1
  have f1 := h.frozen 1
  replace h := Lib.hid h
  go_enter Try.func49, Try.ntmps49
  go_wp2
  refine bodyPost_ret (v := itemZ) (by simp [results, Try.results49, go_sem, itemZ]) rfl ⟨rfl, ?_, grown_alloc (grown_set (World.grownBy.refl w _)) _⟩
  exact ((h.out.set_ 1 _).alloc _).eq rfl
/-- so many bytes are there -/
theorem rd_take (g k : Nat) (A : Option Addr) (n c : Nat) (l : List UInt8) (w : World) (h : RdIs w g A n c l) (hk : k ≤ l.length) :
    Calls Try.prog 48 #[.pointer (some ⟨g, 0, none⟩), .int .i64 k] w fun e w' => e = .returned (.tuple #[.slice A k c, .bool true]) ∧ (∃ A', RdIs w' g A' (n - k) (c - k) (l.drop k)) ∧ w.grownBy w' (some g) := by
  obtain ⟨h1, h2⟩ := h
  have hlen := h2.len
  have hcap := h2.cap
  subst hlen
  have hg := h1.lt
  have g0 : w.cell? ⟨g, 0, none⟩ = some (.slice A l.length c) := h1.cell 0
  have f0 := h1.frozen 0
  have hk' : ¬ (l.length : Int) < (k : Int) := by omega
  have hkc : (k : Int) ≤ (c : Int) := by omega
  replace h1 := Lib.hid h1
  replace h2 := Lib.hid h2
  go_enter Try.func48, Try.ntmps48
  have hcut := Lib.hid (h2.out.cutIf hk)
  have fin : ∀ (A' : Option Addr), A' = (if c = k then A else A.map (·.add k)) → (∃ A2, RdIs (w.setCell ⟨g, 0, none⟩ (.slice A' (l.length - k) (c - k))) g A2 (l.length - k) (c - k) (l.drop k)) ∧ w.grownBy (w.setCell ⟨g, 0, none⟩ (.slice A' (l.length - k) (c - k))) (some g) := by
    intro A' hA
    subst hA
    have hgr := grown_set (g := g) (i := 0) (u := .slice (if c = k then A else A.map (·.add k)) (l.length - k) (c - k)) (World.grownBy.refl w (some g))
    exact ⟨⟨_, ⟨h1.out.set_ 0 _, hcut.out.grown hgr (Nat.le_refl _) (Nat.le_of_lt hg)⟩⟩, hgr⟩
  replace fin := Lib.hid fin
  by_cases hck : c = k
  · have hl : l.length = k := by omega
    have := fin.out A (by rw [if_pos hck])
    rw [hck, Nat.sub_self] at this
    replace this := Lib.hid this
    clear hl
    subst hck
    clear fin
    go_wp2
    go_ret2
    refine ⟨rfl, ?_⟩
    have hz := this.out
    rw [show l.length - c = 0 by omega] at hz
    exact hz
  · have := fin.out (A.map (·.add k)) (by rw [if_neg hck])
    replace this := Lib.hid this
    clear fin
    go_wp2
    go_ret2
    exact ⟨rfl, this.out⟩
theorem rd_take_no (g k : Nat) (A : Option Addr) (n c : Nat) (l : List UInt8) (w : World) (h : RdIs w g A n c l) (hk : l.length < k) :
    Calls Try.prog 48 #[.pointer (some ⟨g, 0, none⟩), .int .i64 k] w fun e w' => e = .returned (.tuple #[.slice none 0 0, .bool false]) ∧ RdBad w' g 22 ∧ w.grownBy w' (some g) := by
  obtain ⟨h1, h2⟩ := h
  have hlen := h2.len
  subst hlen
  have g0 : w.cell? ⟨g, 0, none⟩ = some (.slice A l.length c) := h1.cell 0
  replace h1 := Lib.hid h1
  clear h2
  have hk' : (l.length : Int) < (k : Int) := by omega
  go_enter Try.func48, Try.ntmps48
  go_wp2_with fail
  refine (rd_fail g _ 22 w h1.out).mono ?_
  rintro e w1 ⟨rfl, hb, hgr⟩
  go_wp2_with fail
  go_ret2
  exact ⟨rfl, ⟨_, _, _, hb⟩, hgr⟩

namespace Ns
theorem shl_or (m : Nat) (c : UInt8) (hm : m < 65536) : bits .or .i64 (wrap64 ((m : Int) * 256)) (wrap64 (c.toNat : Int)) = ((m * 256 + c.toNat : Nat) : Int) := by
  have hc := c.toNat_lt
  have e1 : wrap64 ((m : Int) * 256) = (m : Int) * 256 := by unfold wrap64; omega
  have e2 : wrap64 (c.toNat : Int) = (c.toNat : Int) := by unfold wrap64; omega
  rw [e1, e2, bits_join .i64 62 (by decide) (fun n h0 h1 => by rw [IntKind.wrap_i64]; omega) 8 _ _ (by omega) (by omega) (by omega) (by omega) (by omega) (by omega)]
  omega
end Ns
/-- what size answers -/
def SizeQ (x : Except Int (Nat × List UInt8)) (g : Nat) (w : World) (e : Ending) (w' : World) : Prop :=
  w.grownBy w' (some g) ∧ match x with
    | .ok (v, r) => e = .returned (.tuple #[.int .i64 v, .bool true]) ∧ ∃ A n c, RdIs w' g A n c r
    | .error k => e = .returned (.tuple #[.int .i64 0, .bool false]) ∧ RdBad w' g k
theorem SizeQ.ok {x : Except Int (Nat × List UInt8)} {g : Nat} {w w' : World} {e : Ending} {v : Nat} {r : List UInt8} (hx : x = .ok (v, r)) (hg : w.grownBy w' (some g)) (he : e = .returned (.tuple #[.int .i64 v, .bool true])) (hr : ∃ A n c, RdIs w' g A n c r) : SizeQ x g w e w' := by
  subst hx; exact ⟨hg, he, hr⟩
theorem SizeQ.bad {x : Except Int (Nat × List UInt8)} {g : Nat} {w w' : World} {e : Ending} {k : Int} (hx : x = .error k) (hg : w.grownBy w' (some g)) (he : e = .returned (.tuple #[.int .i64 0, .bool false])) (hr : RdBad w' g k) : SizeQ x g w e w' := by
  subst hx; exact ⟨hg, he, hr⟩
theorem RdIs.next {w : World} {g : Nat} {A A' : Option Addr} {n n' c c' : Nat} {l r : List UInt8} (h : RdIs w g A n c l) (hr : RdIs w g A' n' c' r) : n' = r.length := hr.txt.len
set_option maxHeartbeats 1000000 in
theorem rd_size (g k : Nat) (A : Option Addr) (n c : Nat) (l : List UInt8) (w : World) (h : RdIs w g A n c l) (hk : k ≤ 255) :
    Calls Try.prog 51 #[.pointer (some ⟨g, 0, none⟩), .int .i64 k] w fun e w' => SizeQ (Ns.size k l) g w e w' := by
  have hg := h.cells.lt
  by_cases h1 : k ≤ 55
  · have hz := Lib.hid (show Ns.size k l = .ok (k, l) by unfold Ns.size; rw [if_pos h1])
    have h1' : (k : Int) ≤ 55 := by omega
    replace h := Lib.hid h
    go_enter Try.func51, Try.ntmps51
    go_wp2
    go_ret2
    exact SizeQ.ok hz.out (World.grownBy.refl w _) rfl ⟨_, _, _, h.out⟩
  by_cases h2 : 58 < k
  · have hz := Lib.hid (show Ns.size k l = .error 23 by unfold Ns.size; rw [if_neg h1, if_pos h2])
    have h1' : ¬ (k : Int) ≤ 55 := by omega
    have h2' : (58 : Int) < k := by omega
    have hf := rd_fail g _ 23 w h.cells
    replace h := Lib.hid h
    go_enter Try.func51, Try.ntmps51
    go_wp2_with fail
    refine hf.mono ?_
    rintro e w1 ⟨rfl, hb, hgr⟩
    go_wp2_with fail
    go_ret2
    exact SizeQ.bad hz.out hgr rfl ⟨_, _, _, hb⟩
  obtain ⟨m, rfl⟩ : ∃ m, k = m + 55 := ⟨k - 55, by omega⟩
  have hm : m + 55 - 55 = m := by omega
  have h1' : ¬ ((m + 55 : Nat) : Int) ≤ 55 := by omega
  have h2' : ¬ (58 : Int) < ((m + 55 : Nat) : Int) := by omega
  have h3' : IntKind.i64.wrap (((m + 55 : Nat) : Int) - 55) = (m : Int) := by rw [IntKind.wrap_i64]; omega
  by_cases h3 : l.length < m
  · have hz := Lib.hid (show Ns.size (m + 55) l = .error 22 by unfold Ns.size; rw [if_neg h1, if_neg h2, hm, if_pos h3])
    have hf := rd_take_no g m A n c l w h h3
    replace h := Lib.hid h
    go_enter Try.func51, Try.ntmps51
    go_wp2_with fail
    refine hf.mono ?_
    rintro e w1 ⟨rfl, hb, hgr⟩
    go_wp2_with fail
    go_ret2
    exact SizeQ.bad hz.out hgr rfl hb
  have hf := rd_take g m A n c l w h (by omega)
  have hlen := h.txt.len
  have htk := h.txt.takeN (k := m) (by omega)
  replace h := Lib.hid h
  go_enter Try.func51, Try.ntmps51
  go_wp2_with fail
  refine hf.mono ?_
  rintro e w1 ⟨rfl, ⟨A1, hr1⟩, hgr⟩
  have htk1 := htk.grown hgr (Nat.le_refl _) (Nat.le_of_lt hg)
  clear htk hf
  have htl : (l.take m).length = m := by rw [List.length_take]; omega
  have hz := Lib.hid (show Ns.size (m + 55) l = if Wd.tight (l.take m) = false ∨ Wd.rd (l.take m) ≤ 55 then .error 23 else .ok (Wd.rd (l.take m), l.drop m) by unfold Ns.size; rw [if_neg h1, if_neg h2, hm, if_neg h3])
  generalize l.take m = t at htk1 htl hz
  generalize l.drop m = rest at hr1 hz
  clear hlen h3 h
  obtain ⟨hl2, _, _, hrd⟩ := htk1
  clear hm h1 h2
  replace hr1 := Lib.hid hr1
  replace hgr := Lib.hid hgr
  clear hl2
  subst htl
  have hr3 : t.length ≤ 3 := by omega
  have hr0 : 0 < t.length := by omega
  go_wp2
  go_loop [1, 28] (fun n i => ∃ k : Nat, k ≤ t.length ∧ i = .int .i64 k ∧ n = .int .i64 (Wd.rd (t.take k) : Nat)) (fun _ i => t.length - (intOf i).toNat)
  case atStart => exact ⟨0, Nat.zero_le _, rfl, rfl⟩
  case round =>
    obtain ⟨k, hk, rfl, rfl⟩ := hrel
    by_cases hlt : k < t.length
    · obtain ⟨g, o, u, rfl, _, hx, hc⟩ := hrd.at_ (k := k) hlt
      rw [bv_at t k hlt] at hx
      cases hx
      have hlt2 := Wd.rd_lt (t.take k)
      have hb : Wd.rd (t.take k) < 65536 := Nat.lt_of_lt_of_le hlt2 (by rw [List.length_take, Nat.min_eq_left (by omega)]; exact Nat.pow_le_pow_right (n := 256) (i := k) (j := 2) (by omega) (by omega))
      have hs := Ns.shl_or (Wd.rd (t.take k)) t[k] hb
      have he := Wd.rd_snoc (t.take k) t[k]
      rw [← List.take_succ_eq_append_getElem hlt] at he
      rw [← he] at hs
      clear hlt2 hb he
      go_wp2
      refine ⟨⟨k + 1, by omega, by go_num, rfl⟩, ?_⟩
      simp [intOf]; omega
    · obtain rfl : k = t.length := by omega
      rw [List.take_length]
      obtain ⟨g0, o, u, rfl, _, hx, hc⟩ := hrd.at_ (k := 0) hr0
      rw [bv_at t 0 hr0] at hx
      cases hx
      rw [Nat.add_zero] at hc
      have hbad : Ns.size (t.length + 55) l = .error 23 → Hid (RdIs w1 g A1 (n - t.length) (c - t.length) rest) → Calls Try.prog 49 #[.pointer (some ⟨g, 0, none⟩), .int .i64 23] w1 fun e w2 => e = .returned itemZ ∧ SizeQ (Ns.size (t.length + 55) l) g w (.returned (.tuple #[.int .i64 0, .bool false])) w2 := by
        intro e hr
        refine (rd_fail g _ 23 w1 hr.out.cells).mono ?_
        rintro e2 w2 ⟨rfl, hb, hg2⟩
        exact ⟨rfl, SizeQ.bad e (hgr.out.trans hg2) rfl ⟨_, _, _, hb⟩⟩
      have htt : Wd.tight t = (t[0] != 0) := by
        cases t with
        | nil => simp at hr0
        | cons => rfl
      by_cases h0 : t[0] = 0
      · have h0' : (t[0].toNat : Int) = 0 := by rw [h0]; rfl
        have hb := hbad (by rw [hz.out, if_pos (.inl (by rw [htt, h0]; rfl))]) hr1
        clear hbad htt
        go_wp2_with fail
        refine hb.mono ?_
        rintro e w2 ⟨rfl, hq⟩
        go_wp2_with fail
        go_ret2
        exact hq
      · have h0' : ¬ (t[0].toNat : Int) = 0 := fun e => h0 (UInt8.toNat_inj.1 (show t[0].toNat = 0 by omega))
        by_cases h55 : Wd.rd t ≤ 55
        · have h55' : (Wd.rd t : Int) ≤ 55 := by omega
          have hb := hbad (by rw [hz.out, if_pos (.inr h55)]) hr1
          clear hbad htt
          go_wp2_with fail
          refine hb.mono ?_
          rintro e w2 ⟨rfl, hq⟩
          go_wp2_with fail
          go_ret2
          exact hq
        · have h55' : ¬ (Wd.rd t : Int) ≤ 55 := by omega
          have hz2 := Lib.hid (show Ns.size (t.length + 55) l = .ok (Wd.rd t, rest) by
            rw [hz.out, if_neg (by rw [htt]; simp [h0]; omega)])
          clear hbad htt
          go_wp2_with fail
          go_ret2
          exact SizeQ.ok hz2.out hgr.out rfl ⟨_, _, _, hr1.out⟩
end Go.Proofs.YtahaaeenbahknaaRRRR
