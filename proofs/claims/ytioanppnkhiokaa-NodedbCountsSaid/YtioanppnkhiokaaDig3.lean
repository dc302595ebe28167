import Derived.Test.YtioanppnkhiokaaDig2
import Derived.Deep.MidRow
import Derived.Deep.LoopGhost
import Derived.Deep.AppendLies
import Derived.Deep.RegionLaw
namespace Go.Proofs.Ytioanppnkhiokaa
open Go.RowKit

/-- what a Hash holds -/
def hashRow (s : Dig.St) (rest : Value) (n : Int) : Array Value := #[.int .u64 (Dig.v s.a), .int .u64 (Dig.v s.b), .int .u64 (Dig.v s.c), .int .u64 (Dig.v s.d), rest, .int .i64 n]

theorem build_row (s : Dig.St) : Array.foldl (fun cs x => cs.setIfInBounds x.snd x.fst)
    #[Value.int IntKind.u64 0, Value.int IntKind.u64 0, Value.int IntKind.u64 0, Value.int IntKind.u64 0, Value.slice none 0 0, Value.int IntKind.i64 0] (row4 s).zipIdx 0 4 = hashRow s (.slice none 0 0) 0 := by
  simp [row4, hashRow]
set_option maxRecDepth 100000 in
theorem dig_New (w : World) : Calls Try.prog 38 #[] w fun e w' => ∃ H, e = .returned (.pointer (some ⟨H, 0, none⟩)) ∧ w.heap.size ≤ H ∧ Blk w' H 103 (hashRow Dig.begun (.slice none 0 0) 0) ∧ Below w.heap.size w w' := by
  go_enter Try.func38, Try.ntmps38
  go_wp2_with fail
  refine (dig_begun _).mono ?_
  rintro _ w1 ⟨rfl, hb⟩
  have hsz := row4_size Dig.begun
  go_wp2
  rw [build_row]
  go_ret
  exact ⟨_, rfl, hb.size, Blk.new _ _ _, hb.alloc (hb.size) _⟩

theorem Bytes.take32 {w : World} {B n c : Nat} {A : Option Addr} {l : List UInt8} (h : Bytes w B A n c l) (hk : 32 ≤ l.length) : Bytes w B A 32 c (l.take 32) := by
  obtain ⟨h1, h2, h3, h4⟩ := h
  refine ⟨by rw [List.length_take]; omega, by omega, h3, ?_⟩
  have := h4.take (k := 32) (by omega)
  rw [Nat.mul_one] at this
  rw [bv, List.map_take]
  exact this
theorem Dig.absorb_succ (j : Nat) (s : Dig.St) (l : List UInt8) : Dig.absorb (j + 1) s l = Dig.mixed (Dig.absorb j s l) ((l.drop (32 * j)).take 32) := by
  rw [Dig.absorb_add]; simp only [Dig.absorb]
/-- so many pieces are in -/
def HashW (w : World) (H : Nat) (l : List UInt8) (j : Nat) (wr : World) : Prop := 32 * j ≤ l.length ∧ ∃ A' m c',
  Blk wr H 103 (hashRow (Dig.absorb j Dig.begun l) (.slice A' m c') l.length) ∧ Own wr w.heap.size 5 1 A' m c' (bv (l.drop (32 * j))) ∧ w.heap.size ≤ wr.heap.size ∧ Below H w wr
set_option maxRecDepth 100000 in
set_option maxHeartbeats 2000000 in
theorem dig_Write (l : List UInt8) (A : Option Addr) (n c B H : Nat) (w : World) (h : Bytes w B A n c l) (hB : B ≤ H) (hH : Blk w H 103 (hashRow Dig.begun (.slice none 0 0) 0)) (hl : l.length ≤ 140737488355328) :
    Calls Try.prog 39 #[.pointer (some ⟨H, 0, none⟩), .slice A n c] w fun e w' => ∃ A' m c', e = .returned (.tuple #[]) ∧
      Blk w' H 103 (hashRow (Dig.absorb (l.length / 32) Dig.begun l) (.slice A' m c') l.length) ∧ Own w' w.heap.size 5 1 A' m c' (bv (l.drop (32 * (l.length / 32)))) ∧ Below H w w' := by
  have g0 : w.cell? ⟨H, 0, none⟩ = some (.int .u64 (Dig.v Dig.begun.a)) := hH.cell 0
  have g4 : w.cell? ⟨H, 4, none⟩ = some (.slice none 0 0) := hH.cell 4
  have g5 : w.cell? ⟨H, 5, none⟩ = some (.int .i64 0) := hH.cell 5
  have f0 := hH.frozen 0
  have f4 := hH.frozen 4
  have f5 := hH.frozen 5
  have hHs := hH.lt
  have q0 : IntKind.i64.wrap (l.length : Int) = (l.length : Int) := IntWalk.i64_in _ (by omega)
  replace hH := Lib.hid hH
  have hlen := h.len
  replace h := Lib.hid h
  subst hlen
  go_enter Try.func39, Try.ntmps39
  go_wp2_with (first
    | (refine wpList_append_u8 rfl _ _ rfl w.heap.size _ 0 [] rfl (World.ownsRow_nil _ _ _ _) B _ _ _ l rfl (h.out.setCell hB _) (by omega) (by rw [size_set]; omega) ?_
       intro A' c' w1 hown hbel
       have k1 := (Blk.below (hH.out.set_ 5 (.int .i64 l.length)) hbel hHs).eq (cs' := hashRow Dig.begun (.slice none 0 0) l.length) rfl
       have e4 : w1.cell? ⟨H, 4, none⟩ = some (.slice none 0 0) := k1.cell 4
       have f4' := k1.frozen 4
       have hs1 := hbel.size
       replace k1 := Lib.hid k1
       replace hown := Lib.hid hown))
  go_loopg [22] (l.length / 32) (fun k _ wr => k ≤ l.length / 32 ∧ HashW w H l (l.length / 32 - k) wr)
  case atStart =>
    have hs := size_set w ⟨H, 5, none⟩ (.int .i64 l.length)
    have ho := hown.out
    rw [Nat.zero_add, List.nil_append] at ho
    refine ⟨Nat.le_refl _, by omega, A', l.length, c', ?_, ?_, ?_, ?_⟩
    · rw [Nat.sub_self]
      exact (k1.out.set_ 4 _).eq rfl
    · rw [Nat.sub_self]
      exact (Own.of_row ho).far hHs _
    · rw [size_set]; omega
    · exact Below.setCell (p := ⟨H, 4, none⟩) (Below.trans (Below.setCell (p := ⟨H, 5, none⟩) (Below.refl H w) (Nat.le_refl H) _) (hbel.mono (Nat.le_of_lt hHs))) (Nat.le_refl H) _
  case round =>
    clear g0 g4 g5 f0 f4 f5 e4 f4' hs1 hbel hown k1
    obtain ⟨hgk, hj, A1, m1, c1, h0, ho1, hsw, hbw⟩ := hrel
    generalize hjd : l.length / 32 - gk = j at *
    have hm1 : m1 = l.length - 32 * j := by
      have := ho1.len
      rw [bv_length, List.length_drop] at this; omega
    have hc1 := ho1.cap
    subst hm1
    have hb1 : Bytes wr wr.heap.size A1 (l.length - 32 * j) c1 (l.drop (32 * j)) := ⟨by rw [List.length_drop], ho1.cap, ho1.lim, ho1.reads⟩
    replace ho1 := Lib.hid ho1
    have a0 : _ = some (Value.int .u64 (Dig.v (Dig.absorb j Dig.begun l).a)) := h0.cell 0
    have a1 : _ = some (Value.int .u64 (Dig.v (Dig.absorb j Dig.begun l).b)) := h0.cell 1
    have a2 : _ = some (Value.int .u64 (Dig.v (Dig.absorb j Dig.begun l).c)) := h0.cell 2
    have a3 : _ = some (Value.int .u64 (Dig.v (Dig.absorb j Dig.begun l).d)) := h0.cell 3
    have a4 : _ = some (Value.slice A1 (l.length - 32 * j) c1) := h0.cell 4
    replace h0 := Lib.hid h0
    by_cases hlt : 32 ≤ l.length - 32 * j
    · have hnum : l.length / 32 - (gk - 1) = j + 1 ∧ gk - 1 < gk ∧ 32 * (j + 1) ≤ l.length ∧ gk - 1 ≤ l.length / 32 := by omega
      replace hnum := Lib.hid hnum
      have hlti : (32 : Int) ≤ ((l.length - 32 * j : Nat) : Int) := by omega
      have hc32 : (32 : Int) ≤ (c1 : Int) := by omega
      have hA1 := hb1.at_ (k := 0) (by rw [List.length_drop]; omega)
      obtain ⟨g1, o1, rfl, hg1, _⟩ := hA1
      have hHr : H < wr.heap.size := h0.out.lt
      have hpc := (hb1.take32 (by rw [List.length_drop]; omega))
      have b0 := h0.out.frozen 0
      have b1 := h0.out.frozen 1
      have b2 := h0.out.frozen 2
      have b3 := h0.out.frozen 3
      replace hb1 := Lib.hid hb1
      replace hpc := Lib.hid hpc
      go_wp2_with fail
      go_region_law (first
          | (go_simp; go_at_call 47; refine (dig_mixed (Dig.absorb j Dig.begun l) ((l.drop (32 * j)).take 32) _ _ _ _ _ hpc.out.drew (by simp; omega) (Nat.le_refl _)).mono ?_; rintro e w2 ⟨rfl, hb2'⟩; have hb2 : Below wr.heap.size wr w2 := ((Below.refl wr.heap.size wr).drew).trans hb2'; clear hb2'; have e0 := (hb2.cell (p := ⟨H, 0, none⟩) hHr).trans a0; have e1 := (hb2.cell (p := ⟨H, 1, none⟩) hHr).trans a1; have e2 := (hb2.cell (p := ⟨H, 2, none⟩) hHr).trans a2; have e3 := (hb2.cell (p := ⟨H, 3, none⟩) hHr).trans a3; have r0 := (hb2.frozen (p := ⟨H, 0, none⟩) hHr).trans b0; have r1 := (hb2.frozen (p := ⟨H, 1, none⟩) hHr).trans b1; have r2 := (hb2.frozen (p := ⟨H, 2, none⟩) hHr).trans b2; have r3 := (hb2.frozen (p := ⟨H, 3, none⟩) hHr).trans b3; unfold row4))
      all_goals
        have hk : Blk w2 H 103 (hashRow (Dig.absorb j Dig.begun l) (.slice (some ⟨g1, o1, none⟩) (l.length - 32 * j) c1) l.length) := h0.out.below hb2 hHr
        have e4 := (hb2.cell (p := ⟨H, 4, none⟩) hHr).trans a4
        have r4 := hk.frozen 4
        have ho2 := ho1.out.below hb2 (Nat.le_refl _)
        have hs2 := hb2.size
        have hw2 := hbw.trans (hb2.mono (Nat.le_of_lt hHr))
        replace hk := Lib.hid hk
        replace ho2 := Lib.hid ho2
        replace hw2 := Lib.hid hw2
        clear a0 a1 a2 a3
        go_wp2_with fail
      all_goals
        go_roundg (gk - 1)
        case measure => exact hnum.out.2.1
        case rel =>
          rw [hnum.out.1]
          have ho3 := ho2.out.cut (k := 32) (by omega)
          first
            | (refine ⟨hnum.out.2.2.2, hnum.out.2.2.1, some ⟨g1, o1 + 32, none⟩, l.length - 32 * j - 32, c1 - 32, ?_, ?_, ?_, ?_⟩
               · rw [Dig.absorb_succ]
                 (apply Blk.eq; (repeat (first | with_reducible apply Blk.set_ | with_reducible apply Blk.drew | with_reducible exact hk.out)); rfl)
               · refine Own.far (Own.far (Own.far (Own.far (Own.far ?_ hHs _) hHs _) hHs _) hHs _) hHs _
                 rw [if_neg (by omega)] at ho3
                 simpa [bv, add_mk, Nat.mul_add, List.drop_drop] using ho3
               · simp [size_set]; omega
               · (repeat (first | with_reducible refine Below.drew ?_ | (with_reducible refine Below.setCell ?_ (by simp <;> omega) _) | with_reducible exact hw2.out)))
            | (refine ⟨hnum.out.2.2.2, hnum.out.2.2.1, some ⟨g1, o1, none⟩, l.length - 32 * j - 32, 0, ?_, ?_, ?_, ?_⟩
               · rw [Dig.absorb_succ]
                 (apply Blk.eq; (repeat (first | with_reducible apply Blk.set_ | with_reducible apply Blk.drew | with_reducible exact hk.out)); rfl)
               · refine Own.far (Own.far (Own.far (Own.far (Own.far ?_ hHs _) hHs _) hHs _) hHs _) hHs _
                 rw [if_pos (by omega), show c1 - 32 = 0 by omega] at ho3
                 simpa [bv, add_mk, Nat.mul_add, List.drop_drop] using ho3
               · simp [size_set]; omega
               · (repeat (first | with_reducible refine Below.drew ?_ | (with_reducible refine Below.setCell ?_ (by simp <;> omega) _) | with_reducible exact hw2.out)))
    · have hlti : ¬ (32 : Int) ≤ ((l.length - 32 * j : Nat) : Int) := by omega
      replace hb1 := Lib.hid hb1
      have hje : j = l.length / 32 := by omega
      go_wp2_with fail
      go_end0
      subst hje
      exact ⟨rfl, _, _, _, h0.out, ho1.out, hbw⟩
end Go.Proofs.Ytioanppnkhiokaa
