import Derived.Test.YtioanppnkhiokaaDig4
namespace Go.Proofs.Ytioanppnkhiokaa
open Go.RowKit

/-- a digest's cells, and as a value -/
def row32 (l : List UInt8) : Array Value := (bv l).toArray
def digV (l : List UInt8) : Value := .agg (row32 l)
def zero32 : List UInt8 := List.replicate 32 0
theorem Dig.noughts_lt (n : Nat) : Dig.noughts n < 32 := by unfold Dig.noughts; omega
theorem Dig.noughts_end (n j : Nat) (h : j ≤ Dig.noughts n) : (n + 1 + j) % 32 = 24 ↔ j = Dig.noughts n := by unfold Dig.noughts at *; omega
theorem Blk.zeros (w : World) (cs : Array Value) (t : TypeId) (h : cs.toList = bv zero32) : Blk (w.alloc (.cells cs t)) w.heap.size t (row32 zero32) :=
  (Blk.new w t cs).eq (by apply Array.ext'; rw [h]; rfl)

theorem own_block {w : World} {base n c g : Nat} {e : TypeId} {xs : List Value} (h : w.ownsRow base e 1 (.slice (some ⟨g, 0, none⟩) n c) n xs) : ∃ cur, Blk w g e cur ∧ cur.size = c ∧ cur.toList.take n = xs ∧ n ≤ c ∧ c ≤ maxLen := by
  rcases h.2 with ⟨h, _⟩ | ⟨g0, cap, cur, hv, hbg, hg, hnc, hcm, hcs, htake⟩
  · cases h
  · simp only [Value.slice.injEq, Option.some.injEq, Addr.mk.injEq] at hv
    obtain ⟨⟨rfl, _⟩, _, rfl⟩ := hv
    exact ⟨cur, hg, by omega, by simpa using htake, hnc, hcm⟩
theorem Bytes.of_blk {w : World} {g n c : Nat} {t : TypeId} {cs : Array Value} {l : List UInt8} (h : Blk w g t cs) (ht : cs.toList.take n = bv l) (hn : n = l.length) (hc : n ≤ c) (hm : c ≤ maxLen) :
    Bytes w (g + 1) (some ⟨g, 0, none⟩) n c l := by
  refine ⟨hn, hc, hm, by rw [bv_length]; omega, fun _ => ⟨g, 0, rfl, Nat.lt_succ_self g, fun j u hu => ?_⟩⟩
  rw [Nat.zero_add, h.cell j, ← Array.getElem?_toList]
  rw [← ht, List.getElem?_take] at hu
  split at hu
  · exact hu
  · cases hu
theorem putAt_take (cs : Array Value) (off : Nat) (l : List UInt8) (h : off + l.length ≤ cs.size) : (putAt cs off l).toList.take (off + l.length) = cs.toList.take off ++ bv l := by
  have hl : (cs.toList.take off ++ bv l).length = off + l.length := by rw [List.length_append, bv_length, List.length_take, Array.length_toList]; omega
  simp only [putAt]
  rw [← hl]; exact List.take_left
theorem below_grown {B g : Nat} {a w w' : World} (h : Below B a w) (hg : w.grownBy w' (some g)) (hB : B ≤ g) (hs : B ≤ w.heap.size) : Below B a w' :=
  h.trans ⟨hg.os, hg.tape, hg.output, hg.size, fun k hk => hg.block k (by omega) (by simp; omega)⟩
theorem Blk.grown {w w' : World} {g g' : Nat} {t : TypeId} {cs : Array Value} (h : Blk w g t cs) (hg : w.grownBy w' (some g')) (hne : g ≠ g') : Blk w' g t cs := (hg.block g h.lt (by simp; omega)).trans h

theorem putAt_row (l m : List UInt8) (off : Nat) : putAt (row32 l) off m = row32 (l.take off ++ m ++ l.drop (off + m.length)) := by
  simp [putAt, row32, bv]
theorem row4_ix0 (F : Dig.St) (w : World) : (Instr.index 100 (.agg (row4 F)) (.int .i64 0)).run Try.prog w = .ok (.int .u64 (Dig.v F.a)) w := by kernel_rfl
theorem row4_ix1 (F : Dig.St) (w : World) : (Instr.index 100 (.agg (row4 F)) (.int .i64 1)).run Try.prog w = .ok (.int .u64 (Dig.v F.b)) w := by kernel_rfl
theorem row4_ix2 (F : Dig.St) (w : World) : (Instr.index 100 (.agg (row4 F)) (.int .i64 2)).run Try.prog w = .ok (.int .u64 (Dig.v F.c)) w := by kernel_rfl
theorem row4_ix3 (F : Dig.St) (w : World) : (Instr.index 100 (.agg (row4 F)) (.int .i64 3)).run Try.prog w = .ok (.int .u64 (Dig.v F.d)) w := by kernel_rfl
/-- words laid into a digest so far -/
def outTo (F : Dig.St) : Nat → List UInt8
  | 0 => zero32
  | 1 => Dig.bytes8 F.a ++ List.replicate 24 0
  | 2 => Dig.bytes8 F.a ++ Dig.bytes8 F.b ++ List.replicate 16 0
  | 3 => Dig.bytes8 F.a ++ Dig.bytes8 F.b ++ Dig.bytes8 F.c ++ List.replicate 8 0
  | _ => Dig.out F
theorem outTo_put (F : Dig.St) (k : Nat) (h : k < 4) : putAt (row32 (outTo F k)) (8 * k) (Dig.bytes8 (Dig.at4 F k)) = row32 (outTo F (k + 1)) := by
  have ha := Dig.bytes8_length F.a
  have hb := Dig.bytes8_length F.b
  have hc := Dig.bytes8_length F.c
  have hd := Dig.bytes8_length F.d
  have tk : ∀ (x : UInt64) (n : Nat), 8 ≤ n → (Dig.bytes8 x).take n = Dig.bytes8 x := fun x n h => List.take_of_length_le (by rw [Dig.bytes8_length]; exact h)
  have dr : ∀ (x : UInt64) (n : Nat), 8 ≤ n → (Dig.bytes8 x).drop n = [] := fun x n h => List.drop_eq_nil_of_le (by rw [Dig.bytes8_length]; exact h)
  rw [putAt_row]
  congr 1
  match k, h with
  | 0, _ => simp [outTo, Dig.at4, zero32, ha]
  | 1, _ => simp [outTo, Dig.at4, ha, hb, List.take_append, List.drop_append]
  | 2, _ => simp [outTo, Dig.at4, ha, hb, hc, List.take_append, List.drop_append, tk, dr]
  | 3, _ => simp [outTo, Dig.at4, Dig.out, ha, hb, hc, hd, List.take_append, List.drop_append, tk, dr]
theorem outTo_length (F : Dig.St) (k : Nat) : (outTo F k).length = 32 := by
  match k with
  | 0 => simp [outTo, zero32]
  | 1 => simp [outTo, Dig.bytes8_length]
  | 2 => simp [outTo, Dig.bytes8_length]
  | 3 => simp [outTo, Dig.bytes8_length]
  | k + 4 => exact Dig.out_length F
theorem row32_size {l : List UInt8} (h : l.length = 32) : (row32 l).size = 32 := by simp [row32, bv_length, h]
theorem info_digest : (Try.prog.info? 30).map (·.size) = some 32 := by kernel_rfl
theorem row32_one (l : List UInt8) : (row32 l).all (·.oneCell') = true :=
  Array.all_eq_true_iff_forall_mem.2 (by intro u hu; exact bv_one l u (by simpa [row32] using hu))
/-- the end of Sum: so many words are written -/
def SumD (w : World) (D : Nat) (F : Dig.St) (k : Nat) (wr : World) : Prop := Blk wr D 30 (row32 (outTo F k)) ∧ Blk wr w.heap.size 30 (row32 zero32) ∧ Below w.heap.size w wr
theorem SumD.next {w w1 w2 : World} {D : Nat} {F : Dig.St} {k : Nat} (h : SumD w D F k w1) (hk : k < 4) (hD : w.heap.size < D) (h1 : Blk w2 D 30 (putAt (row32 (outTo F k)) (8 * k) (Dig.bytes8 (Dig.at4 F k)))) (hg : w1.grownBy w2 (some D)) : SumD w D F (k + 1) w2 :=
  ⟨h1.eq (outTo_put F k hk), h.2.1.grown hg (by omega), below_grown h.2.2 hg (by omega) (by have := h.2.1.lt; omega)⟩

/-- the padded text is being taken in: so many pieces are -/
def SumB (w : World) (S : Nat) (s : Dig.St) (T : List UInt8) (j : Nat) (v : Value) (wr : World) : Prop := 32 * j ≤ T.length ∧ ∃ A c, v = .slice A (T.length - 32 * j) c ∧ Bytes wr S A (T.length - 32 * j) c (T.drop (32 * j)) ∧
  Blk wr S 100 (row4 (Dig.absorb j s T)) ∧ Blk wr w.heap.size 30 (row32 zero32) ∧ Below w.heap.size w wr
/-- a slice value's length -/
def slen : Value → Nat
  | .slice _ n _ => n
  | _ => 0
/-- the bytes are being padded: so many noughts -/
def SumA (w : World) (rest : List UInt8) (j : Nat) (v : Value) (wr : World) : Prop := ∃ g c, v = .slice (some ⟨g, 0, none⟩) (rest.length + 1 + j) c ∧
  wr.ownsRow (w.heap.size + 1) 5 1 v (rest.length + 1 + j) (bv (rest ++ [128] ++ List.replicate j 0)) ∧ w.heap.size + 1 ≤ g ∧ Blk wr w.heap.size 30 (row32 zero32) ∧ Below w.heap.size w wr ∧ w.heap.size + 1 ≤ wr.heap.size

set_option maxRecDepth 100000 in
set_option maxHeartbeats 2000000 in
theorem dig_Sum (s : Dig.St) (rest : List UInt8) (A : Option Addr) (m c N H : Nat) (w : World) (hH : Blk w H 103 (hashRow s (.slice A m c) N)) (h : Bytes w w.heap.size A m c rest) (hr : rest.length ≤ 1000) (hN : N ≤ 140737488355328) :
    Calls Try.prog 40 #[.pointer (some ⟨H, 0, none⟩)] w fun e w' => e = .returned (digV (Dig.out (Dig.absorb ((Dig.tail rest (UInt64.ofNat N)).length / 32) s (Dig.tail rest (UInt64.ofNat N))))) ∧ Below w.heap.size w w' := by
  have hHs := hH.lt
  have gR : w.cell? ⟨H, 4, none⟩ = some (.slice A m c) := hH.cell 4
  replace hH := Lib.hid hH
  have hlen := h.len
  replace h := Lib.hid h
  subst hlen
  go_enter Try.func40, Try.ntmps40
  go_wp2_with (first
    | (refine wpList_append_u8 rfl _ _ rfl (w.heap.size + 1) _ 0 [] rfl (World.ownsRow_nil _ _ _ _) w.heap.size _ _ _ rest rfl (h.out.alloc (Nat.le_refl _) _) (by omega) (by simp) ?_
       intro A' c' w1 hown hbel
       have hs1 := hbel.size
       simp at hs1
       have k0 := Lib.hid ((Blk.zeros w _ 30 rfl).below hbel (by omega))
       replace hbel := Lib.hid (((Below.refl w.heap.size w).alloc (Nat.le_refl _) _).trans (hbel.mono (by omega)))
       rw [Nat.zero_add, List.nil_append] at *
       have hown := Lib.hid hown)
    | (refine wpList_append1_u8 rfl _ _ rfl (w.heap.size + 1) _ rest.length rest rfl hown.out 128 128 rfl _ rfl (by simp) (by omega) (by omega) ?_
       intro g2 c2 w2 hown2 hg2 hbel2 hsz2
       replace k0 := Lib.hid (k0.out.below hbel2 (by omega))
       replace hbel := Lib.hid (hbel.out.trans (hbel2.mono (by omega)))
       clear hbel2 hown
       have hown := Lib.hid hown2
       clear hown2))
  have q0 := Dig.noughts_lt rest.length
  go_loopw [3] (fun v wr => ∃ j, j ≤ Dig.noughts rest.length ∧ SumA w rest j v wr) (fun v _ => 100000 - slen v)
  case atStart => exact ⟨0, Nat.zero_le _, g2, c2, rfl, by simpa using hown.out, hg2, k0.out, hbel.out, by omega⟩
  case round =>
    obtain ⟨j, hj, g, cc, rfl, ho, hg, hk, hb, hsz⟩ := hrel
    clear hown k0 hbel hsz2 hs1 hg2
    replace ho := Lib.hid ho
    replace hk := Lib.hid hk
    replace hb := Lib.hid hb
    by_cases hlt : j < Dig.noughts rest.length
    · have hmod : (((rest.length : Int) + 1 + (j : Int)) % 32 != 24) = true := by have := Dig.noughts_end rest.length j hj; rw [bne_iff_ne]; omega
      have hlt2 : j + 1 ≤ Dig.noughts rest.length := by omega
      go_wp2_with (refine wpList_append1_u8 rfl _ _ rfl (w.heap.size + 1) _ (rest.length + 1 + j) _ rfl ho.out 0 0 rfl _ rfl (by simp) (by omega) (by omega) ?_
                   intro g3 c3 w3 hown3 hg3 hbel3 hsz3
                   replace hk := Lib.hid (hk.out.below hbel3 (by omega))
                   replace hb := Lib.hid (hb.out.trans (hbel3.mono (by omega)))
                   clear hbel3 ho
                   have ho := Lib.hid hown3
                   clear hown3)
      go_roundw
      case rel =>
        refine ⟨j + 1, hlt2, g3, c3, rfl, ?_, hg3, hk.out, hb.out, by omega⟩
        have := ho.out
        rw [List.append_assoc, ← List.replicate_succ'] at this
        exact this
      case measure => simp [slen]; omega
    · obtain rfl : j = Dig.noughts rest.length := by omega
      have hmod : (((rest.length : Int) + 1 + (Dig.noughts rest.length : Int)) % 32 != 24) = false := by
        have := (Dig.noughts_end rest.length (Dig.noughts rest.length) hj).2 rfl
        rw [bne_eq_false_iff_eq]; omega
      replace q0 := Lib.hid q0
      obtain ⟨g4, c4, w4, hrun, hown4, hg4, hb4⟩ := run_append_zeros_u8 26 wr (w.heap.size + 1) g (rest.length + 1 + Dig.noughts rest.length) cc 8 _ (by omega) ho.out (by have := q0.out; omega) (by omega)
      go_wp2_with (at_builtin; refine Lib.wpList_append_run _ rfl _ _ _ _ rfl _ _ rfl rfl _ _ hrun ?_)
      replace hk := Lib.hid (hk.out.below hb4 (by omega))
      replace hb := Lib.hid (hb.out.trans (hb4.mono (by omega)))
      have hs4 := hb4.size
      clear hb4 hrun ho
      have hpl : (rest ++ [128] ++ List.replicate (Dig.noughts rest.length) 0).length = rest.length + 1 + Dig.noughts rest.length := by simp; omega
      have hm4 : rest.length + 1 + Dig.noughts rest.length ≤ 2000 := by have := q0.out; omega
      have htl := Dig.tail_length rest (UInt64.ofNat N)
      generalize hnn : rest.length + 1 + Dig.noughts rest.length = m4 at *
      have HNN := Lib.hid hnn
      clear hnn
      have HTL := Lib.hid htl
      clear htl
      have HPL := Lib.hid hpl
      clear hpl
      have hH4 := Lib.hid (hH.out.below hb.out hHs)
      have e5 : w4.cell? ⟨H, 5, none⟩ = some (.int .i64 N) := hH4.out.cell 5
      have q5 : (N : Int) = Dig.v (UInt64.ofNat N) := by unfold Dig.v; simp; omega
      have Q5 := Lib.hid q5
      clear q5
      clear gR
      have hb4 := (Own.of_row hown4).cap
      replace hown4 := Lib.hid hown4
      have qw : IntKind.i64.wrap (m4 : Int) = m4 := IntWalk.i64_in _ (by omega)
      have qx : ((m4 : Int) + 8).toNat = m4 + 8 := by omega
      have qc : (m4 : Int) ≤ (c4 : Int) := by omega
      have qd : c4 ≠ m4 := by omega
      have ql : (m4 : Int) ≤ (m4 : Int) + 8 := by omega
      have qe : IntKind.u64.wrap (N : Int) = N := by rw [Dig.wrap_u64]; omega
      go_wp2_with fail
      go_still_tail 10, (by kernel_rfl)
      change wpList _ _ _ _ _ w4.drew
      clear qw qx qc qd qe ql
      rw [Q5.out]
      go_wp2_with fail
      obtain ⟨cur, hbc, hcs, htk, hcn, hcm⟩ := own_block hown4.out
      clear hown4
      refine (dig_lay (UInt64.ofNat N) g4 m4 8 (c4 - m4) _ cur _ hbc.drew (by omega) (Nat.le_refl _)).mono ?_
      rintro e w5 ⟨rfl, hb5, hgr5⟩
      have hbytes : Bytes w5 (g4 + 1) (some ⟨g4, 0, none⟩) (m4 + 8) c4 (Dig.tail rest (UInt64.ofNat N)) := by
        have h8 := Dig.bytes8_length (UInt64.ofNat N)
        refine Bytes.of_blk hb5 ?_ (by rw [HTL.out, ← HNN.out]; omega) (by omega) hcm
        have := putAt_take cur m4 (Dig.bytes8 (UInt64.ofNat N)) (by omega)
        rw [h8] at this
        rw [this]
        have h2 : cur.toList.take m4 = bv (rest ++ [128] ++ List.replicate (Dig.noughts rest.length) 0) := by
          have := congrArg (List.take m4) htk
          rw [List.take_take, Nat.min_eq_left (by omega), bv_append, List.take_left' (by rw [bv_length]; exact HPL.out)] at this
          exact this
        rw [h2, ← bv_append]; rfl
      have hs5 := hgr5.size
      have hg5 : g4 < w5.heap.size := hb5.lt
      replace hk := Lib.hid (hk.out.drew.grown hgr5 (by omega))
      have hH5 := Lib.hid (hH4.out.drew.grown hgr5 (by omega))
      replace hb := Lib.hid (below_grown hb.out.drew hgr5 (by omega) (by simp; omega))
      clear hgr5 hb5 hbc htk hH4 e5
      have c0 : w5.cell? ⟨H, 0, none⟩ = some (.int .u64 (Dig.v s.a)) := hH5.out.cell 0
      have c1 : w5.cell? ⟨H, 1, none⟩ = some (.int .u64 (Dig.v s.b)) := hH5.out.cell 1
      have c2 : w5.cell? ⟨H, 2, none⟩ = some (.int .u64 (Dig.v s.c)) := hH5.out.cell 2
      have c3 : w5.cell? ⟨H, 3, none⟩ = some (.int .u64 (Dig.v s.d)) := hH5.out.cell 3
      replace hbytes := Lib.hid hbytes
      go_wp2_with fail
      have hmod := Dig.tail_mod rest (UInt64.ofNat N)
      have hTL := HTL.out
      generalize hT : Dig.tail rest (UInt64.ofNat N) = T at *
      have HT := Lib.hid hT
      clear hT
      have hTm : T.length = m4 + 8 := by rw [hTL, ← HNN.out]; omega
      have hTm' : T.length ≤ 2008 := by omega
      have HTM := Lib.hid hTm
      have HMOD := Lib.hid hmod
      clear hTm hmod hTL HTL HPL HNN Q5 hH5 c0 c1 c2 c3 hs5 hH h q0
      have hs5 := hb.out.size
      rw [← HTM.out] at hbytes
      have hS : w.heap.size < w5.heap.size := by omega
      go_loopw [3] (fun v wr => ∃ j, SumB w w5.heap.size s T j v wr) (fun v _ => slen v)
      case atStart => exact ⟨0, by omega, some ⟨g4, 0, none⟩, c4, by rw [Nat.mul_zero, Nat.sub_zero, HTM.out], by simpa using (hbytes.out.more (by omega)).alloc (Nat.le_refl _) _, Blk.new _ _ _, hk.out.alloc _, hb.out.alloc (by omega) _⟩
      case round =>
        obtain ⟨j, hj32, A1, c1, rfl, hby, hS0, hd0, hbel⟩ := hrel
        have hmod := HMOD.out
        by_cases hlt : 32 * j < T.length
        · obtain ⟨g1, o1, rfl, hg1, hx⟩ := hby.at_ (k := 0) (by rw [List.length_drop]; omega)
          clear hx
          have hcc := hby.cap
          have hlti : (32 : Int) ≤ ((T.length - 32 * j : Nat) : Int) := by omega
          have hlt0 : (0 : Int) < ((T.length - 32 * j : Nat) : Int) := by omega
          have hc32 : (32 : Int) ≤ (c1 : Int) := by omega
          have hpc := hby.take32 (by rw [List.length_drop]; omega)
          have hSl := hS0.lt
          have a0 : wr.cell? ⟨w5.heap.size, 0, none⟩ = some (.int .u64 (Dig.v (Dig.absorb j s T).a)) := hS0.cell 0
          have a1 : wr.cell? ⟨w5.heap.size, 1, none⟩ = some (.int .u64 (Dig.v (Dig.absorb j s T).b)) := hS0.cell 1
          have a2 : wr.cell? ⟨w5.heap.size, 2, none⟩ = some (.int .u64 (Dig.v (Dig.absorb j s T).c)) := hS0.cell 2
          have a3 : wr.cell? ⟨w5.heap.size, 3, none⟩ = some (.int .u64 (Dig.v (Dig.absorb j s T).d)) := hS0.cell 3
          have b0 := hS0.frozen 0
          have b1 := hS0.frozen 1
          have b2 := hS0.frozen 2
          have b3 := hS0.frozen 3
          replace hby := Lib.hid hby
          replace hpc := Lib.hid hpc
          replace hS0 := Lib.hid hS0
          replace hd0 := Lib.hid hd0
          replace hbel := Lib.hid hbel
          clear hmod
          go_wp2_with fail
          go_region_law (first
              | (go_simp; go_at_call 47; refine (dig_mixed (Dig.absorb j s T) ((T.drop (32 * j)).take 32) _ _ _ _ _ hpc.out.drew (by simp; omega) (Nat.le_of_lt hSl)).mono ?_; rintro e w6 ⟨rfl, hb2'⟩; have hb2 : Below wr.heap.size wr w6 := ((Below.refl wr.heap.size wr).drew).trans hb2'; clear hb2'; have e0 := (hb2.cell (p := ⟨w5.heap.size, 0, none⟩) hSl).trans a0; have e1 := (hb2.cell (p := ⟨w5.heap.size, 1, none⟩) hSl).trans a1; have e2 := (hb2.cell (p := ⟨w5.heap.size, 2, none⟩) hSl).trans a2; have e3 := (hb2.cell (p := ⟨w5.heap.size, 3, none⟩) hSl).trans a3; have r0 := (hb2.frozen (p := ⟨w5.heap.size, 0, none⟩) hSl).trans b0; have r1 := (hb2.frozen (p := ⟨w5.heap.size, 1, none⟩) hSl).trans b1; have r2 := (hb2.frozen (p := ⟨w5.heap.size, 2, none⟩) hSl).trans b2; have r3 := (hb2.frozen (p := ⟨w5.heap.size, 3, none⟩) hSl).trans b3; unfold row4))
          all_goals
            have hk6 : Blk w6 w5.heap.size 100 (row4 (Dig.absorb j s T)) := hS0.out.below hb2 hSl
            have hd6 := hd0.out.below hb2 (by omega)
            have hby6 := (hby.out.below (hb2.mono (Nat.le_of_lt hSl)))
            have hbel6 := hbel.out.trans (hb2.mono (by omega))
            replace hk6 := Lib.hid hk6
            replace hd6 := Lib.hid hd6
            replace hby6 := Lib.hid hby6
            replace hbel6 := Lib.hid hbel6
            clear a0 a1 a2 a3 hby hpc hS0 hd0 hbel hb2
            go_wp2_with fail
          all_goals
            have hmod := HMOD.out
            have hcut := hby6.out.reads.cut (k := 32) (cap := c1) (by omega) hcc
            simp only [Nat.mul_one] at hcut
            go_roundw
            case measure => simp [slen]; omega
            case rel =>
              refine ⟨j + 1, by omega, _, _, by rw [show T.length - 32 * j - 32 = T.length - 32 * (j + 1) by omega], ⟨by rw [List.length_drop], by omega, by have := hby6.out.lim; omega, ?_⟩, ?_, ?_, ?_⟩
              · have hcut2 : Reads w6 w5.heap.size 1 (if c1 = 32 then some ⟨g1, o1, none⟩ else some ⟨g1, o1 + 32, none⟩) (T.length - 32 * (j + 1)) (bv (T.drop (32 * (j + 1)))) := by
                  rw [show T.length - 32 * (j + 1) = T.length - 32 * j - 32 by omega, Nat.mul_add, Nat.mul_one, ← List.drop_drop, show bv ((T.drop (32 * j)).drop 32) = (bv (T.drop (32 * j))).drop 32 by simp [bv]]
                  simpa [add_mk] using hcut
                clear hcut
                (repeat (first | with_reducible exact hcut2 | with_reducible refine Reads.setCell ?_ (by simp) _))
              · rw [Dig.absorb_succ]
                (apply Blk.eq; (repeat (first | with_reducible apply Blk.set_ | with_reducible apply Blk.drew | with_reducible exact hk6.out)); rfl)
              · (repeat (first | with_reducible refine Blk.drew ?_ | (with_reducible refine Blk.far ?_ (by simp <;> omega) _) | with_reducible exact hd6.out))
              · (repeat (first | with_reducible refine Below.drew ?_ | (with_reducible refine Below.setCell ?_ (by simp <;> omega) _) | with_reducible exact hbel6.out))
        · have hje : j = T.length / 32 := by omega
          have hlt0 : ¬ (0 : Int) < ((T.length - 32 * j : Nat) : Int) := by omega
          have hn0 : T.length - 32 * j = 0 := by omega
          have HJE := Lib.hid hje
          have hSl := hS0.lt
          clear hje hmod hby
          replace hS0 := Lib.hid hS0
          replace hd0 := Lib.hid hd0
          replace hbel := Lib.hid hbel
          go_wp2_with (refine load_row4 rfl _ rfl _ _ rfl (hS0.out.alloc _) ?_)
          have HJ := HJE.out
          subst HJ
          have hO := Dig.out_length (Dig.absorb (T.length / 32) s T)
          generalize hF : Dig.absorb (T.length / 32) s T = F at *
          have HF := Lib.hid hF
          clear hF
          have hD := Lib.hid (Blk.zeros wr _ 30 rfl)
          have hDlt : w.heap.size < wr.heap.size := by omega
          have x0 := row4_ix0 F
          have x1 := row4_ix1 F
          have x2 := row4_ix2 F
          have x3 := row4_ix3 F
          have z0 := outTo_length F 0
          have z1 := outTo_length F 1
          have z2 := outTo_length F 2
          have z3 := outTo_length F 3
          refine wp_loop_rounds 5 ?_
          rw [rounds_succ]
          go_wp2_with fail
          refine calls_at (SumD w wr.heap.size F 0) ⟨hD.out, hd0.out.alloc _, hbel.out.alloc (by omega) _⟩ ?_
          clear hD hd0 hbel hS0
          intro wa ia
          refine (dig_lay F.a wr.heap.size 0 8 32 _ _ _ ia.1 (by rw [row32_size z0]; omega) (Nat.le_refl _)).mono ?_
          rintro e wb ⟨rfl, ib, ic⟩
          replace ib := ia.next (by omega) hDlt ib ic
          clear ia ic
          go_wp2_with fail
          rw [rounds_succ]
          go_wp2_with fail
          refine (dig_lay F.b wr.heap.size 8 8 24 _ _ _ ib.1 (by rw [row32_size z1]; omega) (Nat.le_refl _)).mono ?_
          rintro e w7 ⟨rfl, ia, ic⟩
          replace ib := ib.next (by omega) hDlt ia ic
          clear ia ic
          go_wp2_with fail
          rw [rounds_succ]
          go_wp2_with fail
          refine (dig_lay F.c wr.heap.size 16 8 16 _ _ _ ib.1 (by rw [row32_size z2]; omega) (Nat.le_refl _)).mono ?_
          rintro e w8 ⟨rfl, ia, ic⟩
          replace ib := ib.next (by omega) hDlt ia ic
          clear ia ic
          go_wp2_with fail
          rw [rounds_succ]
          go_wp2_with fail
          refine (dig_lay F.d wr.heap.size 24 8 8 _ _ _ ib.1 (by rw [row32_size z3]; omega) (Nat.le_refl _)).mono ?_
          rintro e w9 ⟨rfl, ia, ic⟩
          replace ib := ib.next (by omega) hDlt ia ic
          clear ia ic
          go_wp2_with fail
          rw [rounds_succ]
          go_wp2_with (first
            | (refine wpList_load_row rfl 30 _ rfl _ rfl _ (row32 (outTo F 4)) _ _ ib.1 Try.underlying30 rfl info_digest ?_)
            | (refine wpList_store_row rfl 30 _ _ rfl w.heap.size (row32 (outTo F 4)) rfl rfl _ _ ib.2.1 info_digest (row32_size (outTo_length F 4)) (row32_one _) ?_))
          refine bodyPost_ret (v := digV (Dig.out F)) (results_cell_row rfl _ _ w.heap.size _ (row32 (outTo F 4)) _ _ rfl (ib.2.1.row _) Try.underlying30 rfl info_digest) rfl ⟨?_, below_row ib.2.2 (Nat.le_refl _) _⟩
          rw [HT.out, HF.out]
end Go.Proofs.Ytioanppnkhiokaa
