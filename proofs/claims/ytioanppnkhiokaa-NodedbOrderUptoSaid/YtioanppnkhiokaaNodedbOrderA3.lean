/-
  Texts of a proof, one behind the other: Rq4, Rq5, Rq6, Rq7, It8, It9, Rq8, Db6.
-/
import Derived.Test.YtioanppnkhiokaaNodedbOrderA2
import Derived.Shelf.SlSortCmp.NoneTotal
import Derived.Shelf.SlMaps.Clone
/-
  pergolaref06.Put, Drop.
-/
namespace Go.Proofs.Ytioanppnkhiokaa
open Go.RowKit

/-- three results, the first two of them whole rows -/
theorem results_rows_tmp {P : Program} {fn : Func} {p p2 q : Tmp} {ty ty2 : TypeId} (h : fn.results = #[.cell p ty, .cell p2 ty2, .tmp q]) (tmps : Array Value) (w : World) (g g2 : Nat) (t t2 : TypeId) (cs cs2 : Array Value) (fr fr2 : Nat × Nat) (d d2 : TypeDesc) (v : Value)
    (hp : tmps.getD p undef = .pointer (some ⟨g, 0, none⟩)) (hp2 : tmps.getD p2 undef = .pointer (some ⟨g2, 0, none⟩)) (hq : tmps.getD q undef = v) (hg : w.heap[g]? = some (.cells cs t fr)) (hg2 : w.heap[g2]? = some (.cells cs2 t2 fr2))
    (hu : P.underlying ty = some d) (hd : (match d with | .struct _ | .array _ _ => true | _ => false) = true) (hi : (P.info? ty).map (·.size) = some cs.size)
    (hu2 : P.underlying ty2 = some d2) (hd2 : (match d2 with | .struct _ | .array _ _ => true | _ => false) = true) (hi2 : (P.info? ty2).map (·.size) = some cs2.size) :
    (results fn tmps).run P w = .ok (.tuple #[.agg cs, .agg cs2, v]) w := by
  have hp' : tmps[p]?.getD undef = .pointer (some ⟨g, 0, none⟩) := by simpa using hp
  have hp2' : tmps[p2]?.getD undef = .pointer (some ⟨g2, 0, none⟩) := by simpa using hp2
  have hq' : tmps[q]?.getD undef = v := by simpa using hq
  simp [results, h, hp', hp2', hq', asAddr, run_loadVar_row w g t ty cs fr d hg hu hd hi, run_loadVar_row w g2 t2 ty2 cs2 fr2 d2 hg2 hu2 hd2 hi2]
/-- what Put sees -/
structure RpB (w : World) (most : Int) (L : List One) (A : Option Addr) (n c : Nat) (W : World) : Prop where
  s : Blk W w.heap.size 45 #[.int .i64 most, .slice A n c]
  r : ∃ cs : Array Value, Blk W (w.heap.size + 1) 45 cs ∧ cs.size = 2
  q : ∃ cs : Array Value, Blk W (w.heap.size + 2) 30 cs ∧ cs.size = 32
  rf : RefIs W w.heap.size L A n c
  bel : Below w.heap.size w W
/-- .. and the digest in a block of its own -/
structure RpS (w : World) (D : Nat) (most : Int) (L : List One) (A : Option Addr) (n c : Nat) (d : List UInt8) (W : World) : Prop where
  b : RpB w most L A n c W
  dd : Blk W D 30 (row32 d)
  lt : w.heap.size + 2 < D
section
variable {w W W' : World} {D : Nat} {most : Int} {L : List One} {A : Option Addr} {n c : Nat} {d : List UInt8}
theorem RpB.step (h : RpB w most L A n c W) (hb : Below W.heap.size W W') : RpB w most L A n c W' := by
  obtain ⟨c1, h1, s1⟩ := h.r
  obtain ⟨c2, h2, s2⟩ := h.q
  exact ⟨h.s.below hb h.s.lt, ⟨c1, h1.below hb h1.lt, s1⟩, ⟨c2, h2.below hb h2.lt, s2⟩, h.rf.below (hb.mono h.bel.size), h.bel.trans (hb.mono h.bel.size)⟩
theorem RpB.top (h : RpB w most L A n c W) : w.heap.size + 2 < W.heap.size := by
  obtain ⟨c2, h2, s2⟩ := h.q
  exact h2.lt
theorem RpB.start (h : RefIs w w.heap.size L A n c) (most : Int) (cs : Array Value) (hcs : cs.size = 32) : RpB w most L A n c (((w.alloc (.cells #[.int .i64 most, .slice A n c] 45)).alloc (.cells #[.int .i64 0, .slice none 0 0] 45)).alloc (.cells cs 30)) := by
  have hb0 := (((Below.refl w.heap.size w).alloc (Nat.le_refl _) (.cells #[.int .i64 most, .slice A n c] 45)).alloc (by simp) (.cells #[.int .i64 0, .slice none 0 0] 45)).alloc (by simp; omega) (.cells cs 30)
  exact ⟨((Blk.new w _ _).alloc _).alloc _, ⟨_, (Blk.new' (g := w.heap.size + 1) (by simp)).alloc _, rfl⟩, ⟨_, Blk.new' (g := w.heap.size + 2) (by simp), hcs⟩, h.below hb0, hb0⟩
theorem RpS.step (h : RpS w D most L A n c d W) (hb : Below W.heap.size W W') : RpS w D most L A n c d W' :=
  ⟨h.b.step hb, h.dd.below hb h.dd.lt, h.lt⟩
theorem RpS.drew (h : RpS w D most L A n c d W) : RpS w D most L A n c d W.drew := h.step (Below.refl _ _).drew
theorem RpS.alloc (h : RpS w D most L A n c d W) (o : Obj) : RpS w D most L A n c d (W.alloc o) := h.step ((Below.refl _ _).alloc (Nat.le_refl _) o)
theorem RpS.sto1 (h : RpS w D most L A n c d W) (R : Array Value) (hR : R.size = 2) : RpS w D most L A n c d (W.setRow (w.heap.size + 1) R) := by
  have hl := h.lt
  obtain ⟨c1, h1, s1⟩ := h.b.r
  obtain ⟨c2, h2, s2⟩ := h.b.q
  have hb := below_row (Below.refl w.heap.size W) (show w.heap.size ≤ w.heap.size + 1 by omega) R
  exact ⟨⟨h.b.s.row_far R (by omega), ⟨R, h1.row R, hR⟩, ⟨c2, h2.row_far R (by omega), s2⟩, h.b.rf.below hb, h.b.bel.trans hb⟩, h.dd.row_far R (by omega), hl⟩
theorem RpS.sto2 (h : RpS w D most L A n c d W) (R : Array Value) (hR : R.size = 32) : RpS w D most L A n c d (W.setRow (w.heap.size + 2) R) := by
  have hl := h.lt
  obtain ⟨c1, h1, s1⟩ := h.b.r
  obtain ⟨c2, h2, s2⟩ := h.b.q
  have hb := below_row (Below.refl w.heap.size W) (show w.heap.size ≤ w.heap.size + 2 by omega) R
  exact ⟨⟨h.b.s.row_far R (by omega), ⟨c1, h1.row_far R (by omega), s1⟩, ⟨R, h2.row R, hR⟩, h.b.rf.below hb, h.b.bel.trans hb⟩, h.dd.row_far R (by omega), hl⟩
theorem RpS.end1 (h : RpS w D most L A n c d W) (R R2 : Array Value) : Blk ((W.setRow (w.heap.size + 1) R).setRow (w.heap.size + 2) R2) (w.heap.size + 1) 45 R := by
  obtain ⟨c1, h1, s1⟩ := h.b.r
  exact (h1.row R).row_far R2 (by omega)
theorem RpS.end2 (h : RpS w D most L A n c d W) (R R2 : Array Value) : Blk ((W.setRow (w.heap.size + 1) R).setRow (w.heap.size + 2) R2) (w.heap.size + 2) 30 R2 := by
  obtain ⟨c2, h2, s2⟩ := h.b.q
  exact (h2.row_far R (by omega)).row R2
end
def onePlaces : Array (Nat × Nat) := #[(0, 32), (32, 1), (33, 1)]
theorem built_one_eq (parts : List (Nat × Value)) : Try.prog.built 59 parts = Instr.fill (onePlaces[·]?) (oneArr one0) parts := by kernel_rfl
theorem fill_part (v : Value) (l : List Value) (hv : v.cells.toList = l) (i off : Nat) (hp : onePlaces[i]? = some (off, l.length)) (cs : Array Value) (h : off + l.length ≤ cs.size) (parts : List (Nat × Value)) :
    Instr.fill (onePlaces[·]?) cs ((i, v) :: parts) = Instr.fill (onePlaces[·]?) (cs.toList.take off ++ l ++ cs.toList.drop (off + l.length)).toArray parts := by
  have hs : v.cells.size = l.length := by rw [← hv, Array.length_toList]
  rw [Instr.fill]
  simp only [hp]
  rw [if_neg (by simp [hs]; omega), fold_set v l hv off cs h]
theorem built_one (d : List UInt8) (hd : d.length = 32) (t : ByteArray) (n : Int) :
    Try.prog.built 59 [(0, .agg (row32 d)), (1, .string t), (2, .int .i64 n)] = some (oneArr ⟨d, t, n⟩) := by
  have hl : (bv d).length = 32 := by rw [bv_length, hd]
  rw [built_one_eq]
  have e0 : (oneArr one0).toList.drop (0 + (bv d).length) = [.string ⟨#[]⟩, .int .i64 0] := by rw [hl]; rfl
  rw [fill_part (.agg (row32 d)) (bv d) rfl 0 0 (by rw [hl]; rfl) _ (by rw [hl, oneArr_size rfl]; decide), e0, List.take_zero, List.nil_append]
  rw [fill_part (.string t) [.string t] rfl 1 32 rfl _ (by simp [hl])]
  rw [fill_part (.int .i64 n) [.int .i64 n] rfl 2 33 rfl _ (by simp [hl])]
  rw [Instr.fill]
  congr 1
  apply Array.ext'
  simp [hl, oneArr, oneRow, List.take_append, List.drop_append, List.take_of_length_le, List.drop_eq_nil_of_le]
theorem grown_setRow (w : World) (g : Nat) (cs : Array Value) : w.grownBy (w.setRow g cs) (some g) := ⟨rfl, rfl, rfl, by simp, fun q _ hne => setRow_other w g q cs (fun e => hne (by rw [e]))⟩
theorem Blk.rangeL {w : World} {g : Nat} {t : TypeId} {cs : Array Value} (h : Blk w g t cs) : w.rangeAt g 0 cs.toList := fun j v hv => by
  rw [Nat.zero_add, h.cell j, ← Array.getElem?_toList]
  exact hv
/-- a list of things lies in no small block -/
theorem RefIs.far {w : World} {B : Nat} {L : List One} {A : Option Addr} {n c q : Nat} {ty : TypeId} {cs : Array Value} (h : RefIs w B L A n c) (hq : Blk w q ty cs) (hs : cs.size < 34) (R : Array Value) : RefIs (w.setRow q R) B L A n c := by
  refine ⟨h.len, h.cap, h.lim, h.ds, h.rd.1, fun hn => ?_⟩
  obtain ⟨g, o, e, hg, hc⟩ := h.rd.2 hn
  have hne : g ≠ q := by
    intro e2
    subst e2
    have hl : 0 < L.length := by have := h.len; omega
    have h33 := rows_at h.ds 0 hl 33 (by omega)
    rw [Nat.zero_mul, Nat.zero_add, oneRow, List.getElem?_append_right (by rw [bv_length, h.ds _ (List.getElem_mem hl)]; omega), bv_length, h.ds _ (List.getElem_mem hl)] at h33
    have := hc 33 _ h33
    rw [hq.cell, Array.getElem?_eq_none (by omega)] at this
    cases this
  refine ⟨g, o, e, hg, fun j u hu => ?_⟩
  rw [World.cell?_of_block (setRow_other w q g R hne)]
  exact hc j u hu
/-- .. and a store of the call's own -/
structure RpT (w : World) (D : Nat) (most : Int) (L : List One) (A : Option Addr) (n c : Nat) (d : List UInt8) (T : Nat) (L' : List One) (A' : Option Addr) (m' c' : Nat) (W : World) : Prop where
  s : RpS w D most L A n c d W
  t : Blk W T 45 #[.int .i64 most, .slice A' m' c']
  o : OnL (T + 1) W A' m' c' L'
  lt : D < T
section
variable {w W W' : World} {D T : Nat} {most : Int} {L L' : List One} {A A' : Option Addr} {n c m' c' : Nat} {d : List UInt8}
theorem RpS.stepB {B : Nat} (h : RpS w D most L A n c d W) (hb : Below B W W') (hD : D < B) : RpS w D most L A n c d W' := by
  have hl := h.lt
  obtain ⟨c1, h1, s1⟩ := h.b.r
  obtain ⟨c2, h2, s2⟩ := h.b.q
  exact ⟨⟨h.b.s.below hb (by omega), ⟨c1, h1.below hb (by omega), s1⟩, ⟨c2, h2.below hb (by omega), s2⟩, h.b.rf.below (hb.mono (by omega)), h.b.bel.trans (hb.mono (by omega))⟩, h.dd.below hb hD, hl⟩
theorem RpT.begin (h : RpS w D most L A n c d W) (cs : Array Value) : RpT w D most L A n c d W.heap.size [] none 0 0 ((W.alloc (.cells cs 45)).setRow W.heap.size #[.int .i64 most, .slice none 0 0]) := by
  have hb : Below W.heap.size W ((W.alloc (.cells cs 45)).setRow W.heap.size #[.int .i64 most, .slice none 0 0]) := below_row ((Below.refl _ _).alloc (Nat.le_refl _) _) (Nat.le_refl _) _
  exact ⟨h.step hb, (Blk.new W _ _).row _, OnL.start, h.dd.lt⟩
theorem RpT.step (h : RpT w D most L A n c d T L' A' m' c' W) (hb : Below W.heap.size W W') : RpT w D most L A n c d T L' A' m' c' W' :=
  ⟨h.s.step hb, h.t.below hb h.t.lt, h.o.below hb, h.lt⟩
theorem RpT.sto1 (h : RpT w D most L A n c d T L' A' m' c' W) (R : Array Value) (hR : R.size = 2) : RpT w D most L A n c d T L' A' m' c' (W.setRow (w.heap.size + 1) R) := by
  have h1 := h.lt
  have h2 := h.s.lt
  exact ⟨h.s.sto1 R hR, h.t.row_far R (by omega), h.o.far (grown_setRow W _ R) (fun e => by have := (h.o.own.lt _ e).1; omega), h1⟩
theorem RpT.sto2 (h : RpT w D most L A n c d T L' A' m' c' W) (R : Array Value) (hR : R.size = 32) : RpT w D most L A n c d T L' A' m' c' (W.setRow (w.heap.size + 2) R) := by
  have h1 := h.lt
  have h2 := h.s.lt
  exact ⟨h.s.sto2 R hR, h.t.row_far R (by omega), h.o.far (grown_setRow W _ R) (fun e => by have := (h.o.own.lt _ e).1; omega), h1⟩
theorem RpT.mid (h : RpT w D most L A n c d T L' A' m' c' W) {w5 : World} (hg : W.grownBy w5 (Value.slice A' m' c').ownBlock) : Below (T + 1) W w5 :=
  ⟨hg.os, hg.tape, hg.output, hg.size, fun q hq => hg.block q (by have := h.t.lt; omega) (fun e => by have := (h.o.own.lt q e.symm).1; omega)⟩
theorem RpT.next (h : RpT w D most L A n c d T L' A' m' c' W) {w5 : World} (hg : W.grownBy w5 (Value.slice A' m' c').ownBlock) {L5 : List One} {A5 : Option Addr} {m5 c5 : Nat} (hL : OnL (T + 1) w5 A5 m5 c5 L5) :
    RpT w D most L A n c d T L5 A5 m5 c5 (w5.setCell ⟨T, 1, none⟩ (.slice A5 m5 c5)) := by
  have hb := h.mid hg
  have hlt := h.lt
  have hl := h.s.lt
  have hb2 : Below T w5 (w5.setCell ⟨T, 1, none⟩ (.slice A5 m5 c5)) := (Below.refl T w5).setCell (Nat.le_refl _) _
  refine ⟨h.s.stepB ((hb.mono (Nat.le_succ T)).trans hb2) hlt, ?_, hL.far (grown_set (World.grownBy.refl w5 _)) (fun e => by have := (hL.own.lt _ e).1; omega), hlt⟩
  exact (h.t.below hb (Nat.lt_succ_self T)).set_ 1 _
end
/-- what Put leaves -/
def RefPutQ (most : Int) (L : List One) (x : List UInt8) (k : Int) (w : World) (e : Ending) (w' : World) : Prop :=
  ∃ A n c, e = .returned (.tuple #[.agg #[.int .i64 most, .slice A n c], digV x, .int .i64 k]) ∧ RefIs w' w'.heap.size L A n c ∧ Below w.heap.size w w'
theorem row32_zero : (#[.int .u8 0, .int .u8 0, .int .u8 0, .int .u8 0, .int .u8 0, .int .u8 0, .int .u8 0, .int .u8 0, .int .u8 0, .int .u8 0, .int .u8 0, .int .u8 0, .int .u8 0, .int .u8 0, .int .u8 0, .int .u8 0, .int .u8 0, .int .u8 0, .int .u8 0, .int .u8 0, .int .u8 0, .int .u8 0, .int .u8 0, .int .u8 0, .int .u8 0, .int .u8 0, .int .u8 0, .int .u8 0, .int .u8 0, .int .u8 0, .int .u8 0, .int .u8 0] : Array Value) = row32 zero32 := by kernel_rfl
set_option maxRecDepth 100000 in
set_option maxHeartbeats 4000000 in
theorem ref_Put (most : Int) (L : List One) (A : Option Addr) (n c : Nat) (t : ByteArray) (w : World) (h : RefIs w w.heap.size L A n c) (hL : OkL L) (hlim : (n + 1) * 56 ≤ 140737488355328) (ht : t.size ≤ 140737488351232) (d : List UInt8) (hd : Dig.of t.data.toList = d) :
    Calls Try.prog 17 #[.agg #[.int .i64 most, .slice A n c], .string t] w (RefPutQ most (putL L most t d) (putX (asc L) d t (getL L d) most) (putK (asc L) t (getL L d) most) w) := by
  have hol := Dig.of_length t.data.toList
  rw [hd] at hol
  have hsz : t.data.toList.length = t.size := Array.length_toList
  have HD := Lib.hid hd
  clear hd
  have hn63 : (n : Int) ≤ 9223372036854775807 := by omega
  have hlen := Lib.hid h.len
  have HT := Lib.hid ht
  clear ht
  replace hL := Lib.hid hL
  replace hlim := Lib.hid hlim
  have hst := Lib.hid h
  clear h
  go_enter Try.func17, Try.ntmps17
  go_upto_region 1 with fail
  refine code_at (RpB w most L A n c) (RpB.start hst.out most _ rfl) ?_
  clear hst
  intro w1 hst
  have hcp := Lib.hid (conv_post t w1 5 (by have := HT.out; omega))
  have hcv := Lib.run_convert_string_bytes (P := Try.prog) w1 9 26 5 t Try.underlying9 Try.underlying26 Try.underlying5
  replace hst := Lib.hid hst
  go_wp2_with fail
  clear hcv
  refine (rdig_Of t.data.toList _ t.size _ _ hcp.out.1 (by have := HT.out; omega)).mono ?_
  rintro e w2 ⟨rfl, hb2⟩
  rw [HD.out]
  replace hst := Lib.hid ((hst.out.step hcp.out.2.2).step hb2)
  clear hcp hb2
  unfold digV
  have hsd := row32_size hol
  go_upto_region 2 with (refine wpList_store_row rfl 30 _ _ rfl w2.heap.size (row32 d) rfl rfl _ _ (Blk.zeros w2 _ 30 rfl) (by rw [hsd]; exact info_digest) (by rw [hsd]; rfl) (row32_one _) ?_)
  refine code_at (RpS w w2.heap.size most L A n c d) ?_ ?_
  · have hb3 := below_row ((Below.refl w2.heap.size w2).alloc (Nat.le_refl _) (.cells (bv zero32).toArray 30)) (Nat.le_refl _) (row32 d)
    exact ⟨hst.out.step hb3, (Blk.zeros w2 _ 30 rfl).row _, hst.out.top⟩
  clear hst
  generalize w2.heap.size = D at *
  intro w3 hp
  have hat := Lib.hid (ref_At most L A n c d w3 (hp.b.rf.more hp.b.bel.size) hol)
  have hp1 := hp.b.s
  have hp2 := hp.dd
  replace hp := Lib.hid hp
  replace hp1 := Lib.hid hp1
  replace hp2 := Lib.hid hp2
  go_wp2_with (first | (refine wpList_load_row rfl 45 _ rfl w.heap.size rfl _ #[.int .i64 most, .slice A n c] _ _ hp1.out Try.underlying45 rfl info_sto ?_) | (refine wpList_load_row rfl 30 _ rfl D rfl _ (row32 d) _ _ hp2.out Try.underlying30 rfl (by rw [hsd]; exact info_digest) ?_))
  refine hat.out.mono ?_
  rintro e w4 ⟨rfl, hb4⟩
  replace hp := Lib.hid (hp.out.step hb4)
  clear hat hp1 hp2 hb4
  have c1 : w4.cell? ⟨w.heap.size, 1, none⟩ = some (.slice A n c) := hp.out.b.s.cell 1
  have c0 : w4.cell? ⟨w.heap.size, 0, none⟩ = some (.int .i64 most) := hp.out.b.s.cell 0
  have hp1 := Lib.hid hp.out.b.s
  have hp2 := Lib.hid hp.out.dd
  have e2 : ∀ k : Int, k ≠ 0 → putK (asc L) t (getL L d) most = k → putX (asc L) d t (getL L d) most = zero32 ∧ putL L most t d = L := fun k hk e => by
    unfold putX putL
    rw [e, if_neg hk, if_neg hk]
    exact ⟨rfl, rfl⟩
  replace e2 := Lib.hid e2
  obtain ⟨r0, hr, hrs⟩ := hp.out.b.r
  obtain ⟨q0, hq, hqs⟩ := hp.out.b.q
  replace hr := Lib.hid hr
  replace hrs := Lib.hid hrs
  replace hq := Lib.hid hq
  replace hqs := Lib.hid hqs
  rcases atI_get hL.out.one d with ⟨hg, ha⟩ | ⟨k, hk, ha, hkd, hg⟩
  · rw [ha]
    by_cases hfull : most ≤ (n : Int)
    · have hfl : decide (most ≤ (n : Int)) = true := by simpa using hfull
      have e1 := Lib.hid (show putK (asc L) t (getL L d) most = 62 by rw [hg]; unfold putK; simp only; rw [if_pos (by rw [asc_length, ← hlen.out]; exact hfull)])
      replace hg := Lib.hid hg
      clear ha
      go_wp2_with (first | (first | (refine wpList_load_row rfl 45 _ rfl w.heap.size rfl _ #[.int .i64 most, .slice A n c] _ _ hp1.out Try.underlying45 rfl info_sto ?_) | (refine wpList_load_row rfl 30 _ rfl D rfl _ (row32 d) _ _ hp2.out Try.underlying30 rfl (by rw [hsd]; exact info_digest) ?_)) | (refine wpList_store_row rfl 45 _ _ rfl (w.heap.size + 1) #[.int .i64 most, .slice A n c] rfl rfl _ _ hr.out info_sto hrs.out (sto_one _ _ _ _) ?_) | (refine wpList_store_row rfl 30 _ _ rfl (w.heap.size + 2) (row32 zero32) rfl rfl _ _ (hq.out.row_far _ (by omega)) (by rw [row32_size rfl]; exact info_digest) (by rw [hqs.out, row32_size rfl]) (row32_one _) ?_))
      (refine bodyPost_ret (v := .tuple #[.agg #[.int .i64 most, .slice A n c], digV zero32, .int .i64 62]) (results_rows_tmp rfl _ _ (w.heap.size + 1) (w.heap.size + 2) _ _ _ (row32 zero32) _ _ _ _ _ rfl rfl rfl (hp.out.end1 _ _) (hp.out.end2 _ _) Try.underlying45 rfl info_sto Try.underlying30 rfl (by rw [row32_size rfl]; exact info_digest)) rfl ?_; obtain ⟨x1, x2⟩ := e2.out _ (by decide) e1.out; rw [x1, x2, e1.out]; have hf := ((hp.out.sto1 #[.int .i64 most, .slice A n c] rfl).sto2 (row32 zero32) (row32_size rfl)).b; exact ⟨A, n, c, rfl, hf.rf.more hf.bel.size, hf.bel⟩)
    · have hfl : decide (most ≤ (n : Int)) = false := by simpa using hfull
      have e1 := Lib.hid (show putK (asc L) t (getL L d) most = 0 by rw [hg]; unfold putK; simp only; rw [if_neg (by rw [asc_length, ← hlen.out]; exact hfull)])
      have e3 := Lib.hid (show putX (asc L) d t (getL L d) most = d ∧ putL L most t d = L ++ [⟨d, t, 1⟩] by unfold putX putL; rw [e1.out, if_pos rfl, if_pos rfl, hg]; exact ⟨rfl, rfl⟩)
      replace hg := Lib.hid hg
      clear ha hr hrs hq hqs
      go_upto_region 12 with (first
        | (first | (refine wpList_load_row rfl 45 _ rfl w.heap.size rfl _ #[.int .i64 most, .slice A n c] _ _ hp1.out Try.underlying45 rfl info_sto ?_) | (refine wpList_load_row rfl 30 _ rfl D rfl _ (row32 d) _ _ hp2.out Try.underlying30 rfl (by rw [hsd]; exact info_digest) ?_))
        | (refine wpList_store_row rfl 45 _ _ rfl w4.heap.size #[.int .i64 most, .slice none 0 0] rfl rfl _ _ (Blk.new w4 _ _) info_sto rfl (sto_one _ _ _ _) ?_))
      refine code_at (RpT w D most L A n c d w4.heap.size [] none 0 0) (RpT.begin hp.out _) ?_
      clear hp hp1 hp2 c0 c1
      generalize w4.heap.size = T
      intro w5 hp
      have c1 : w5.cell? ⟨w.heap.size, 1, none⟩ = some (.slice A n c) := hp.s.b.s.cell 1
      have ct : w5.cell? ⟨T, 1, none⟩ = some (.slice none 0 0) := hp.t.cell 1
      have hT := hp.t.lt
      replace hp := Lib.hid hp
      replace hT := Lib.hid hT
      go_upto_region 13 with (first
        | (at_builtin; refine wpList_append_ones rfl _ _ rfl hp.out.o (by have := hT.out; omega) rfl rfl hp.out.s.b.rf (by have := hlim.out; omega) ?_; intro A6 c6 w6 hL6 hg6 _; have hT6 := hp.out.t.below (hp.out.mid hg6) (Nat.lt_succ_self T); have c6t : w6.cell? ⟨T, 1, none⟩ = some (.slice none 0 0) := hT6.cell 1; have f6t := hT6.frozen 1; have hN := Lib.hid (hp.out.next hg6 hL6); clear hL6 hg6 hT6)
        | fail)
      refine code_at (RpT w D most L A n c d T L A6 n c6) (by have := hN.out; rwa [List.nil_append, Nat.zero_add] at this) ?_
      clear hp hT c1 ct c6t f6t hN w6
      (try rw [Nat.zero_add])
      intro w6 hp
      have ct : w6.cell? ⟨T, 1, none⟩ = some (.slice A6 n c6) := hp.t.cell 1
      have hp2 := Lib.hid hp.s.dd
      have hT := hp.t.lt
      have hOn := Lib.hid (hp.o.below ((Below.refl w6.heap.size w6).alloc (Nat.le_refl _) (.cells (oneArr ⟨d, t, 1⟩) 59)))
      have hRo := Lib.hid (ref_one w6 ⟨d, t, 1⟩ hol)
      have hpa := Lib.hid (hp.step ((Below.refl w6.heap.size w6).alloc (Nat.le_refl _) (.cells (oneArr ⟨d, t, 1⟩) 59)))
      replace hp := Lib.hid hp
      replace hT := Lib.hid hT
      go_upto_region 14 with (first
        | (refine wpList_load_row rfl 30 _ rfl D rfl _ (row32 d) _ _ hp2.out Try.underlying30 rfl (by rw [hsd]; exact info_digest) ?_)
        | (refine wpList_built rfl 59 _ rfl (oneArr ⟨d, t, 1⟩) (by rw [Array.toList_map]; exact built_one d hol t 1) ?_)
        | (refine wpList_build_one rfl _ rfl ⟨d, t, 1⟩ hol rfl ?_)
        | (at_builtin; refine wpList_append_ones rfl _ _ rfl hOn.out (by have := hT.out; simp; omega) rfl rfl hRo.out (by have := hlim.out; omega) ?_; intro A7 c7 w7 hL7 hg7 _; have hT7 := hpa.out.t.below (hpa.out.mid hg7) (Nat.lt_succ_self T); have c7t : w7.cell? ⟨T, 1, none⟩ = some (.slice A6 n c6) := hT7.cell 1; have f7t := hT7.frozen 1; have hN := Lib.hid (hpa.out.next hg7 hL7); clear hL7 hg7 hT7)
        | fail)
      refine code_at (RpT w D most L A n c d T (L ++ [⟨d, t, 1⟩]) A7 (n + 1) c7) hN.out ?_
      clear hp hp2 hT hOn hRo hpa ct c7t f7t hN w7
      intro w7 hp
      replace hp := Lib.hid hp
      refine wp_region_held_drew (S := (RpT w D most L A n c d T (L ++ [⟨d, t, 1⟩]) A7 (n + 1) c7)) (by kernel_rfl) (by exact hp.out.step (Below.refl _ _).drew) (fun hS => ?_)
      clear hp
      (refine hTake (i := 0) rfl (by kernel_rfl) (by kernel_rfl) (by kernel_rfl) (fun _ _ _ h => h) (yieldsIf_load_mid (by rfl) _ _ rfl _ _ rfl [.int .i64 most, .slice A7 (n + 1) c7] _ (fun W hW => (hW.t.rangeL)) Try.underlying45 rfl info_sto) hS ?_; try simp only [Act.put, List.setIfInBounds_toArray, List.set_cons_zero, List.set_cons_succ])
      (refine hTake (i := 1) rfl (by kernel_rfl) (by kernel_rfl) (by kernel_rfl) (fun _ _ _ h => h) (yieldsIf_load_mid (by rfl) _ _ rfl _ _ rfl (bv d) _ (fun W hW => (hW.s.dd.range)) Try.underlying30 rfl (by rw [bv_length, hol]; exact info_digest)) hS ?_; try simp only [Act.put, List.setIfInBounds_toArray, List.set_cons_zero, List.set_cons_succ])
      (refine hOne (i := 2) rfl (by kernel_rfl) (fun K hK => ?_))
      rw [if_pos (by rfl)]
      obtain ⟨r1, hr1, hrs1⟩ := hS.s.b.r
      refine wp_store_row 45 _ _ rfl (w.heap.size + 1) #[.int .i64 most, .slice A7 (n + 1) c7] rfl rfl _ _ hr1 info_sto hrs1 (sto_one _ _ _ _) ?_
      have hS2 := hS.sto1 #[.int .i64 most, .slice A7 (n + 1) c7] rfl
      have hE := hS.s
      (refine hK.out _ _ hS2 (fun hS => ?_); clear hK K; try simp only [Act.put, List.setIfInBounds_toArray, List.set_cons_zero, List.set_cons_succ])
      (refine hOne (i := 3) rfl (by kernel_rfl) (fun K hK => ?_))
      rw [if_pos (by rfl)]
      obtain ⟨q1, hq1, hqs1⟩ := hS2.s.b.q
      refine wp_store_row 30 _ _ rfl (w.heap.size + 2) (row32 d) rfl rfl _ _ hq1 (by rw [hsd]; exact info_digest) (by rw [hqs1, hsd]) (row32_one _) ?_
      have hS3 := hS2.sto2 (row32 d) hsd
      (refine hK.out _ _ hS3 (fun hS => ?_); clear hK K; try simp only [Act.put, List.setIfInBounds_toArray, List.set_cons_zero, List.set_cons_succ])
      (refine hTake (i := 4) (v := ?v1) rfl (by kernel_rfl) (by kernel_rfl) (by kernel_rfl) (fun _ _ _ h => h) (Or.inl ⟨by rfl, ?y1⟩) hS ?r1; (case y1 => (intro W hW; (go_simp); (try with_reducible rfl); done)); try simp only [Act.put, List.setIfInBounds_toArray, List.set_cons_zero, List.set_cons_succ])
      refine wpAnyH_done (by kernel_rfl) ?_ _
      replace hS3 := Lib.hid hS3
      replace hE := Lib.hid hE
      clear hS hS2
      go_wp2_with fail
      refine bodyPost_ret (v := .tuple #[.agg #[.int .i64 most, .slice A7 (n + 1) c7], digV d, .int .i64 0]) (results_rows_tmp rfl _ _ (w.heap.size + 1) (w.heap.size + 2) _ _ _ (row32 d) _ _ _ _ _ rfl rfl rfl (hE.out.end1 _ _) (hE.out.end2 _ _) Try.underlying45 rfl info_sto Try.underlying30 rfl (by rw [hsd]; exact info_digest)) rfl ?_
      rw [e3.out.1, e3.out.2, e1.out]
      exact ⟨A7, n + 1, c7, rfl, hS3.out.o.ref, hS3.out.s.b.bel⟩
  · obtain ⟨g, o, rfl, hgB, hrow⟩ := hp.out.b.rf.row k hk
    have hdl := hp.out.b.rf.ds _ (List.getElem_mem hk)
    have ct := oneRow_txt hrow hdl
    have cn := oneRow_num hrow hdl
    have hkn : (k : Int) < n := by have := hlen.out; omega
    clear hrow
    rw [ha]
    clear ha
    by_cases htt : L[k].t = t
    · have hte : (L[k].t.toList == t.toList) = true := by rw [htt]; simp
      by_cases hmx : 4294967295 ≤ L[k].n
      · have e1 := Lib.hid (show putK (asc L) t (getL L d) most = 62 by rw [hg]; unfold putK; simp only; rw [if_pos (by rw [htt]), if_pos hmx])
        have hmx' : decide (4294967295 ≤ L[k].n) = true := decide_eq_true hmx
        replace hg := Lib.hid hg
        clear hkd htt
        go_wp2_with (first | (first | (refine wpList_load_row rfl 45 _ rfl w.heap.size rfl _ #[.int .i64 most, .slice (some ⟨g, o, none⟩) n c] _ _ hp1.out Try.underlying45 rfl info_sto ?_) | (refine wpList_load_row rfl 30 _ rfl D rfl _ (row32 d) _ _ hp2.out Try.underlying30 rfl (by rw [hsd]; exact info_digest) ?_)) | (refine wpList_store_row rfl 45 _ _ rfl (w.heap.size + 1) #[.int .i64 most, .slice (some ⟨g, o, none⟩) n c] rfl rfl _ _ hr.out info_sto hrs.out (sto_one _ _ _ _) ?_) | (refine wpList_store_row rfl 30 _ _ rfl (w.heap.size + 2) (row32 zero32) rfl rfl _ _ (hq.out.row_far _ (by omega)) (by rw [row32_size rfl]; exact info_digest) (by rw [hqs.out, row32_size rfl]) (row32_one _) ?_))
        (refine bodyPost_ret (v := .tuple #[.agg #[.int .i64 most, .slice (some ⟨g, o, none⟩) n c], digV zero32, .int .i64 62]) (results_rows_tmp rfl _ _ (w.heap.size + 1) (w.heap.size + 2) _ _ _ (row32 zero32) _ _ _ _ _ rfl rfl rfl (hp.out.end1 _ _) (hp.out.end2 _ _) Try.underlying45 rfl info_sto Try.underlying30 rfl (by rw [row32_size rfl]; exact info_digest)) rfl ?_; obtain ⟨x1, x2⟩ := e2.out _ (by decide) e1.out; rw [x1, x2, e1.out]; have hf := ((hp.out.sto1 #[.int .i64 most, .slice (some ⟨g, o, none⟩) n c] rfl).sto2 (row32 zero32) (row32_size rfl)).b; exact ⟨_, n, c, rfl, hf.rf.more hf.bel.size, hf.bel⟩)
      · have e1 := Lib.hid (show putK (asc L) t (getL L d) most = 0 by rw [hg]; unfold putK; simp only; rw [if_pos (by rw [htt]), if_neg hmx])
        have hmx' : decide (4294967295 ≤ L[k].n) = false := decide_eq_false hmx
        have e3 := Lib.hid (show putX (asc L) d t (getL L d) most = d ∧ putL L most t d = setL L d (L[k].n + 1) by unfold putX putL; rw [e1.out, if_pos rfl, if_pos rfl, hg]; exact ⟨rfl, rfl⟩)
        have hpos := (hL.out.all _ (List.getElem_mem hk)).2.2.1
        replace hg := Lib.hid hg
        clear htt hr hrs hq hqs
        go_upto_region 8 with fail
        replace hp := Lib.hid hp.out
        have hsum : IntKind.i64.wrap (L[k].n + 1) = L[k].n + 1 := by simp [IntKind.wrap, IntKind.bits, IntKind.signed]; omega
        replace hkd := Lib.hid hkd
        refine wp_region_held_drew (S := (RpS w D most L (some ⟨g, o, none⟩) n c d)) (by kernel_rfl) (by exact hp.out.drew) (fun hS => ?_)
        clear hp hp1 hp2 c0 c1 ct cn
        (refine hTake (i := 0) rfl (by kernel_rfl) (by kernel_rfl) (by kernel_rfl) (fun _ _ _ h => h) (yieldsIf_load_mid (by rfl) _ _ rfl _ _ rfl [.int .i64 most, .slice (some ⟨g, o, none⟩) n c] _ (fun W hW => (hW.b.s.rangeL)) Try.underlying45 rfl info_sto) hS ?_; try simp only [Act.put, List.setIfInBounds_toArray, List.set_cons_zero, List.set_cons_succ])
        (refine hTake (i := 1) (v := ?v2) rfl (by kernel_rfl) (by kernel_rfl) (by kernel_rfl) (fun _ _ _ h => h) (Or.inl ⟨by rfl, ?y2⟩) hS ?r2; (case y2 => (intro W hW; (go_simp); (try with_reducible rfl); done)); try simp only [Act.put, List.setIfInBounds_toArray, List.set_cons_zero, List.set_cons_succ])
        (refine hTake (i := 2) (v := ?v3) rfl (by kernel_rfl) (by kernel_rfl) (by kernel_rfl) (fun _ _ _ h => h) (Or.inl ⟨by rfl, ?y3⟩) hS ?r3; (case y3 => (intro W hW; (go_simp); (try with_reducible rfl); done)); try simp only [Act.put, List.setIfInBounds_toArray, List.set_cons_zero, List.set_cons_succ])
        (refine hTake (i := 3) (v := ?v4) rfl (by kernel_rfl) (by kernel_rfl) (by kernel_rfl) (fun _ _ _ h => h) (Or.inl ⟨by rfl, ?y4⟩) hS ?r4; (case y4 => (intro W hW; ((have g1 := hW.b.s.cell 1; simp at g1; go_simp)); (try with_reducible rfl); done)); try simp only [Act.put, List.setIfInBounds_toArray, List.set_cons_zero, List.set_cons_succ])
        (refine hTake (i := 4) (v := ?v5) rfl (by kernel_rfl) (by kernel_rfl) (by kernel_rfl) (fun _ _ _ h => h) (Or.inl ⟨by rfl, ?y5⟩) hS ?r5; (case y5 => (intro W hW; (go_simp); (try with_reducible rfl); done)); try simp only [Act.put, List.setIfInBounds_toArray, List.set_cons_zero, List.set_cons_succ])
        (refine hTake (i := 5) (v := ?v6) rfl (by kernel_rfl) (by kernel_rfl) (by kernel_rfl) (fun _ _ _ h => h) (Or.inl ⟨by rfl, ?y6⟩) hS ?r6; (case y6 => (intro W hW; (go_simp); (try with_reducible rfl); done)); try simp only [Act.put, List.setIfInBounds_toArray, List.set_cons_zero, List.set_cons_succ])
        (refine hTake (i := 6) (v := ?v7) rfl (by kernel_rfl) (by kernel_rfl) (by kernel_rfl) (fun _ _ _ h => h) (Or.inl ⟨by rfl, ?y7⟩) hS ?r7; (case y7 => (intro W hW; (go_simp); (try with_reducible rfl); done)); try simp only [Act.put, List.setIfInBounds_toArray, List.set_cons_zero, List.set_cons_succ])
        (refine hTake (i := 7) (v := ?v8) rfl (by kernel_rfl) (by kernel_rfl) (by kernel_rfl) (fun _ _ _ h => h) (Or.inl ⟨by rfl, ?y8⟩) hS ?r8; (case y8 => (intro W hW; ((have g1 : W.cell? ⟨g, o + k * 34 + 33, none⟩ = some (.int .i64 L[k].n) := (by obtain ⟨g', o', e, _, hr⟩ := hW.b.rf.row k hk; cases e; exact oneRow_num hr (hW.b.rf.ds _ (List.getElem_mem hk))); go_simp)); (try with_reducible rfl); done)); try simp only [Act.put, List.setIfInBounds_toArray, List.set_cons_zero, List.set_cons_succ])
        (refine hTake (i := 8) (v := ?v9) rfl (by kernel_rfl) (by kernel_rfl) (by kernel_rfl) (fun _ _ _ h => h) (Or.inl ⟨by rfl, ?y9⟩) hS ?r9; (case y9 => (intro W hW; (go_simp); (try with_reducible rfl); done)); try simp only [Act.put, List.setIfInBounds_toArray, List.set_cons_zero, List.set_cons_succ])
        (refine hTake (i := 10) rfl (by kernel_rfl) (by kernel_rfl) (by kernel_rfl) (fun _ _ _ h => h) (yieldsIf_load_mid (by rfl) _ _ rfl _ _ rfl (bv d) _ (fun W hW => (hW.dd.range)) Try.underlying30 rfl (by rw [bv_length, hol]; exact info_digest)) hS ?_; try simp only [Act.put, List.setIfInBounds_toArray, List.set_cons_zero, List.set_cons_succ])
        (refine hOne (i := 9) rfl (by kernel_rfl) (fun K hK => ?_))
        rw [if_pos (by rfl)]
        have hwi := Lib.hid (ref_with most L (some ⟨g, o, none⟩) n c k (L[k].n + 1) w4.drew (hS.b.rf.more hS.b.bel.size) (by have := hlim.out; omega))
        replace hS := Lib.hid hS
        go_simp
        refine hwi.out.mono ?_
        rintro e w6 ⟨A6, n6, c6, rfl, hr6, hb6⟩
        go_wp2_with fail
        have hS6 := Lib.hid (hS.out.step hb6)
        replace hr6 := Lib.hid hr6
        clear hS hwi hb6
        (refine hK.out _ _ (by exact hS6.out) (fun hS => ?_); clear hK K; try simp only [Act.put, List.setIfInBounds_toArray, List.set_cons_zero, List.set_cons_succ])
        clear hS6
        (refine hOne (i := 11) rfl (by kernel_rfl) (fun K hK => ?_))
        rw [if_pos (by rfl)]
        obtain ⟨r1, hr1, hrs1⟩ := hS.b.r
        refine wp_store_row 45 _ _ rfl (w.heap.size + 1) #[.int .i64 most, .slice A6 n6 c6] rfl rfl _ _ hr1 info_sto hrs1 (sto_one _ _ _ _) ?_
        have hS2 := hS.sto1 #[.int .i64 most, .slice A6 n6 c6] rfl
        have hE := hS
        have hR2 := hr6.out.far hr1 (by omega) #[.int .i64 most, .slice A6 n6 c6]
        (refine hK.out _ _ hS2 (fun hS => ?_); clear hK K; try simp only [Act.put, List.setIfInBounds_toArray, List.set_cons_zero, List.set_cons_succ])
        (refine hOne (i := 12) rfl (by kernel_rfl) (fun K hK => ?_))
        rw [if_pos (by rfl)]
        obtain ⟨q1, hq1, hqs1⟩ := hS2.b.q
        refine wp_store_row 30 _ _ rfl (w.heap.size + 2) (row32 d) rfl rfl _ _ hq1 (by rw [hsd]; exact info_digest) (by rw [hqs1, hsd]) (row32_one _) ?_
        have hS3 := hS2.sto2 (row32 d) hsd
        have hR3 := hR2.far hq1 (by omega) (row32 d)
        (refine hK.out _ _ hS3 (fun hS => ?_); clear hK K; try simp only [Act.put, List.setIfInBounds_toArray, List.set_cons_zero, List.set_cons_succ])
        (refine hTake (i := 13) (v := ?v10) rfl (by kernel_rfl) (by kernel_rfl) (by kernel_rfl) (fun _ _ _ h => h) (Or.inl ⟨by rfl, ?y10⟩) hS ?r10; (case y10 => (intro W hW; (go_simp); (try with_reducible rfl); done)); try simp only [Act.put, List.setIfInBounds_toArray, List.set_cons_zero, List.set_cons_succ])
        refine wpAnyH_done (by kernel_rfl) ?_ _
        replace hS3 := Lib.hid hS3
        replace hE := Lib.hid hE
        replace hR3 := Lib.hid hR3
        clear hS hS2 hR2 hr1 hrs1 hq1 hqs1
        have hW := withL_eq hL.out hk (n := L[k].n + 1) (by omega)
        rw [hkd.out, if_neg (by omega)] at hW
        replace hW := Lib.hid hW
        go_wp2_with fail
        refine bodyPost_ret (v := .tuple #[.agg #[.int .i64 most, .slice A6 n6 c6], digV d, .int .i64 0]) (results_rows_tmp rfl _ _ (w.heap.size + 1) (w.heap.size + 2) _ _ _ (row32 d) _ _ _ _ _ rfl rfl rfl (hE.out.end1 _ _) (hE.out.end2 _ _) Try.underlying45 rfl info_sto Try.underlying30 rfl (by rw [hsd]; exact info_digest)) rfl ?_
        rw [e3.out.1, e3.out.2, e1.out]
        exact ⟨A6, n6, c6, rfl, by rw [← hW.out]; exact hR3.out.more (by simp), hS3.out.b.bel⟩
    · have htf : (L[k].t.toList == t.toList) = false := by simpa using fun e => htt (bytes_ext (by rw [ByteArray.toList_eq, ByteArray.toList_eq] at e; exact e))
      have e1 := Lib.hid (show putK (asc L) t (getL L d) most = 60 by rw [hg]; unfold putK; simp only; rw [if_neg (fun e => htt (bytes_ext e))])
      replace hg := Lib.hid hg
      clear htt
      go_wp2_with (first | (first | (refine wpList_load_row rfl 45 _ rfl w.heap.size rfl _ #[.int .i64 most, .slice (some ⟨g, o, none⟩) n c] _ _ hp1.out Try.underlying45 rfl info_sto ?_) | (refine wpList_load_row rfl 30 _ rfl D rfl _ (row32 d) _ _ hp2.out Try.underlying30 rfl (by rw [hsd]; exact info_digest) ?_)) | (refine wpList_store_row rfl 45 _ _ rfl (w.heap.size + 1) #[.int .i64 most, .slice (some ⟨g, o, none⟩) n c] rfl rfl _ _ hr.out info_sto hrs.out (sto_one _ _ _ _) ?_) | (refine wpList_store_row rfl 30 _ _ rfl (w.heap.size + 2) (row32 zero32) rfl rfl _ _ (hq.out.row_far _ (by omega)) (by rw [row32_size rfl]; exact info_digest) (by rw [hqs.out, row32_size rfl]) (row32_one _) ?_))
      (refine bodyPost_ret (v := .tuple #[.agg #[.int .i64 most, .slice (some ⟨g, o, none⟩) n c], digV zero32, .int .i64 60]) (results_rows_tmp rfl _ _ (w.heap.size + 1) (w.heap.size + 2) _ _ _ (row32 zero32) _ _ _ _ _ rfl rfl rfl (hp.out.end1 _ _) (hp.out.end2 _ _) Try.underlying45 rfl info_sto Try.underlying30 rfl (by rw [row32_size rfl]; exact info_digest)) rfl ?_; obtain ⟨x1, x2⟩ := e2.out _ (by decide) e1.out; rw [x1, x2, e1.out]; have hf := ((hp.out.sto1 #[.int .i64 most, .slice (some ⟨g, o, none⟩) n c] rfl).sto2 (row32 zero32) (row32_size rfl)).b; exact ⟨_, n, c, rfl, hf.rf.more hf.bel.size, hf.bel⟩)
end Go.Proofs.Ytioanppnkhiokaa

/-
  pergolaref06.Drop.
-/
namespace Go.Proofs.Ytioanppnkhiokaa
open Go.RowKit

/-- three results, the first of them a whole row -/
theorem results_row_tmp2 {P : Program} {fn : Func} {p q r : Tmp} {ty : TypeId} (h : fn.results = #[.cell p ty, .tmp q, .tmp r]) (tmps : Array Value) (w : World) (g : Nat) (t : TypeId) (cs : Array Value) (fr : Nat × Nat) (d : TypeDesc) (v u : Value)
    (hp : tmps.getD p undef = .pointer (some ⟨g, 0, none⟩)) (hq : tmps.getD q undef = v) (hr : tmps.getD r undef = u) (hg : w.heap[g]? = some (.cells cs t fr))
    (hu : P.underlying ty = some d) (hd : (match d with | .struct _ | .array _ _ => true | _ => false) = true) (hi : (P.info? ty).map (·.size) = some cs.size) :
    (results fn tmps).run P w = .ok (.tuple #[.agg cs, v, u]) w := by
  have hp' : tmps[p]?.getD undef = .pointer (some ⟨g, 0, none⟩) := by simpa using hp
  have hq' : tmps[q]?.getD undef = v := by simpa using hq
  have hr' : tmps[r]?.getD undef = u := by simpa using hr
  simp [results, h, hp', hq', hr', asAddr, run_loadVar_row w g t ty cs fr d hg hu hd hi]
structure RdS (w : World) (most : Int) (L : List One) (A : Option Addr) (n c : Nat) (d : List UInt8) (W : World) : Prop where
  s : Blk W w.heap.size 45 #[.int .i64 most, .slice A n c]
  dd : Blk W (w.heap.size + 1) 30 (row32 d)
  r : Blk W (w.heap.size + 2) 45 #[.int .i64 0, .slice none 0 0]
  rf : RefIs W w.heap.size L A n c
  bel : Below w.heap.size w W
section
variable {w W W' : World} {most : Int} {L : List One} {A : Option Addr} {n c : Nat} {d : List UInt8}
theorem RdS.step (h : RdS w most L A n c d W) (hb : Below W.heap.size W W') : RdS w most L A n c d W' :=
  ⟨h.s.below hb h.s.lt, h.dd.below hb h.dd.lt, h.r.below hb h.r.lt, h.rf.below (hb.mono h.bel.size), h.bel.trans (hb.mono h.bel.size)⟩
theorem RdS.start (h : RefIs w w.heap.size L A n c) (most : Int) (d : List UInt8) : RdS w most L A n c d (((w.alloc (.cells #[.int .i64 most, .slice A n c] 45)).alloc (.cells (row32 d) 30)).alloc (.cells #[.int .i64 0, .slice none 0 0] 45)) := by
  have hb0 := (((Below.refl w.heap.size w).alloc (Nat.le_refl _) (.cells #[.int .i64 most, .slice A n c] 45)).alloc (by simp) (.cells (row32 d) 30)).alloc (by simp; omega) (.cells #[.int .i64 0, .slice none 0 0] 45)
  exact ⟨((Blk.new w _ _).alloc _).alloc _, (Blk.new' (g := w.heap.size + 1) (by simp)).alloc _, Blk.new' (g := w.heap.size + 2) (by simp), h.below hb0, hb0⟩
end
/-- what Drop leaves -/
def RefDropQ (most : Int) (L : List One) (g : Bool) (k : Int) (w : World) (e : Ending) (w' : World) : Prop :=
  ∃ A n c, e = .returned (.tuple #[.agg #[.int .i64 most, .slice A n c], .bool g, .int .i64 k]) ∧ RefIs w' w'.heap.size L A n c ∧ Below w.heap.size w w'
set_option maxRecDepth 100000 in
set_option maxHeartbeats 4000000 in
theorem ref_Drop (most : Int) (L : List One) (A : Option Addr) (n c : Nat) (d : List UInt8) (w : World) (h : RefIs w w.heap.size L A n c) (hL : OkL L) (hlim : n * 56 ≤ 140737488355328) (hol : d.length = 32) :
    Calls Try.prog 35 #[.agg #[.int .i64 most, .slice A n c], .agg (row32 d)] w (RefDropQ most (dropL L d) (dropG (getL L d)) (dropK (getL L d)) w) := by
  have hn63 : (n : Int) ≤ 9223372036854775807 := by omega
  have hlen := Lib.hid h.len
  replace hL := Lib.hid hL
  replace hlim := Lib.hid hlim
  have hst := Lib.hid h
  have hsd := row32_size hol
  clear h
  go_enter Try.func35, Try.ntmps35
  go_upto_region 1 with fail
  refine code_at (RdS w most L A n c d) (RdS.start hst.out most d) ?_
  clear hst
  intro w1 hp
  have hat := Lib.hid (ref_At most L A n c d w1 (hp.rf.more hp.bel.size) hol)
  have hp1 := Lib.hid hp.s
  have hp2 := Lib.hid hp.dd
  replace hp := Lib.hid hp
  go_wp2_with (first | (refine wpList_load_row rfl 45 _ rfl w.heap.size rfl _ #[.int .i64 most, .slice A n c] _ _ hp1.out Try.underlying45 rfl info_sto ?_) | (refine wpList_load_row rfl 30 _ rfl (w.heap.size + 1) rfl _ (row32 d) _ _ hp2.out Try.underlying30 rfl (by rw [hsd]; exact info_digest) ?_))
  refine hat.out.mono ?_
  rintro e w4 ⟨rfl, hb4⟩
  replace hp := Lib.hid (hp.out.step hb4)
  clear hat hp1 hp2 hb4
  have c1 : w4.cell? ⟨w.heap.size, 1, none⟩ = some (.slice A n c) := hp.out.s.cell 1
  have hp1 := Lib.hid hp.out.s
  have hp2 := Lib.hid hp.out.dd
  have hr := Lib.hid hp.out.r
  rcases atI_get hL.out.one d with ⟨hg, ha⟩ | ⟨k, hk, ha, hkd, hg⟩
  · rw [ha]
    clear ha
    have e1 := Lib.hid (show dropL L d = L ∧ dropG (getL L d) = false ∧ dropK (getL L d) = 61 by unfold dropL; rw [hg]; exact ⟨rfl, rfl, rfl⟩)
    replace hg := Lib.hid hg
    go_wp2_with (first | (first | (refine wpList_load_row rfl 45 _ rfl w.heap.size rfl _ #[.int .i64 most, .slice A n c] _ _ hp1.out Try.underlying45 rfl info_sto ?_) | (refine wpList_load_row rfl 30 _ rfl (w.heap.size + 1) rfl _ (row32 d) _ _ hp2.out Try.underlying30 rfl (by rw [hsd]; exact info_digest) ?_)) | (refine wpList_store_row rfl 45 _ _ rfl (w.heap.size + 2) #[.int .i64 most, .slice A n c] rfl rfl _ _ hr.out info_sto rfl (sto_one _ _ _ _) ?_))
    refine bodyPost_ret (v := .tuple #[.agg #[.int .i64 most, .slice A n c], .bool false, .int .i64 61]) (results_row_tmp2 rfl _ _ (w.heap.size + 2) _ _ _ _ _ _ rfl rfl rfl (hr.out.row _) Try.underlying45 rfl info_sto) rfl ?_
    rw [e1.out.1, e1.out.2.1, e1.out.2.2]
    have hb := below_row (Below.refl w.heap.size w4) (show w.heap.size ≤ w.heap.size + 2 by omega) #[.int .i64 most, .slice A n c]
    exact ⟨A, n, c, rfl, (hp.out.rf.below hb).more (by simp; exact hp.out.bel.size), hp.out.bel.trans hb⟩
  · obtain ⟨g, o, rfl, hgB, hrow⟩ := hp.out.rf.row k hk
    have hdl := hp.out.rf.ds _ (List.getElem_mem hk)
    have cn := oneRow_num hrow hdl
    have hkn : (k : Int) < n := by have := hlen.out; omega
    clear hrow
    rw [ha]
    clear ha
    have hpos := (hL.out.all _ (List.getElem_mem hk)).2.2.1
    have hmx := (hL.out.all _ (List.getElem_mem hk)).2.2.2
    have hsum : IntKind.i64.wrap (L[k].n - 1) = L[k].n - 1 := by simp [IntKind.wrap, IntKind.bits, IntKind.signed]; omega
    have hW := withL_eq hL.out hk (n := L[k].n - 1) (by omega)
    rw [hkd] at hW
    have e1 := Lib.hid (show dropL L d = withL k (L[k].n - 1) 0 L ∧ dropG (getL L d) = decide (L[k].n - 1 = 0) ∧ dropK (getL L d) = 0 by
      unfold dropL
      rw [hg, hW]
      refine ⟨?_, by unfold dropG; simp only; exact decide_eq_decide.2 (by omega), rfl⟩
      simp only
      by_cases h1 : L[k].n = 1
      · rw [if_pos h1, if_pos (by omega)]
      · rw [if_neg h1, if_neg (by omega)])
    replace hg := Lib.hid hg
    replace hkd := Lib.hid hkd
    replace hW := Lib.hid hW
    have hwi := Lib.hid (ref_with most L (some ⟨g, o, none⟩) n c k (L[k].n - 1) w4 (hp.out.rf.more hp.out.bel.size) hlim.out)
    go_wp2_with (first | (refine wpList_load_row rfl 45 _ rfl w.heap.size rfl _ #[.int .i64 most, .slice (some ⟨g, o, none⟩) n c] _ _ hp1.out Try.underlying45 rfl info_sto ?_) | (refine wpList_load_row rfl 30 _ rfl (w.heap.size + 1) rfl _ (row32 d) _ _ hp2.out Try.underlying30 rfl (by rw [hsd]; exact info_digest) ?_))
    refine hwi.out.mono ?_
    rintro e w6 ⟨A6, n6, c6, rfl, hr6, hb6⟩
    replace hp := Lib.hid (hp.out.step hb6)
    clear hwi hp1 hp2 hr c1 cn hb6
    have hr := Lib.hid hp.out.r
    replace hr6 := Lib.hid hr6
    generalize hz : L[k].n - 1 = z at *
    replace hz := Lib.hid hz
    clear hsum
    go_wp2_with (refine wpList_store_row rfl 45 _ _ rfl (w.heap.size + 2) #[.int .i64 most, .slice A6 n6 c6] rfl rfl _ _ hr.out info_sto rfl (sto_one _ _ _ _) ?_)
    refine bodyPost_ret (v := .tuple #[.agg #[.int .i64 most, .slice A6 n6 c6], .bool (decide (z = 0)), .int .i64 0]) (results_row_tmp2 rfl _ _ (w.heap.size + 2) _ _ _ _ _ _ rfl (by rfl) rfl (hr.out.row _) Try.underlying45 rfl info_sto) rfl ?_
    rw [e1.out.1, e1.out.2.1, e1.out.2.2]
    have hb := below_row (Below.refl w.heap.size w6) (show w.heap.size ≤ w.heap.size + 2 by omega) #[.int .i64 most, .slice A6 n6 c6]
    exact ⟨A6, n6, c6, rfl, (hr6.out.far hr.out (by decide) _).more (by simp), hp.out.bel.trans hb⟩
end Go.Proofs.Ytioanppnkhiokaa

/-
  pergolaref01.Less.
-/
namespace Go.Proofs.Ytioanppnkhiokaa
open Go.RowKit

theorem lt_stop (x y : List UInt8) : ∀ (k : Nat) (hx : k < x.length) (hy : k < y.length), x.take k = y.take k → x[k] ≠ y[k] → (x < y ↔ x[k] < y[k]) := by
  intro k
  induction k generalizing x y with
  | zero =>
    intro hx hy _ hne
    cases x with
    | nil => simp at hx
    | cons a r =>
      cases y with
      | nil => simp at hy
      | cons b s =>
        simp only [List.getElem_cons_zero] at hne ⊢
        rw [List.cons_lt_cons_iff]
        exact ⟨fun h => h.elim id fun h => absurd h.1 hne, .inl⟩
  | succ k ih =>
    intro hx hy ht hne
    cases x with
    | nil => simp at hx
    | cons a r =>
      cases y with
      | nil => simp at hy
      | cons b s =>
        simp only [List.take_succ_cons, List.cons.injEq] at ht
        simp only [List.getElem_cons_succ] at hne ⊢
        obtain ⟨rfl, ht⟩ := ht
        rw [List.cons_lt_cons_iff]
        have := ih r s (by simpa using hx) (by simpa using hy) ht hne
        rw [← this]
        exact ⟨fun h => h.elim (fun h => absurd h (by simp)) fun h => h.2, fun h => .inr ⟨rfl, h⟩⟩
theorem take_next (x y : List UInt8) (k : Nat) (hx : k < x.length) (hy : k < y.length) (ht : x.take k = y.take k) (he : x[k] = y[k]) : x.take (k + 1) = y.take (k + 1) := by
  rw [List.take_succ_eq_append_getElem hx, List.take_succ_eq_append_getElem hy, ht, he]
set_option maxRecDepth 100000 in
set_option maxHeartbeats 1000000 in
theorem ref_Less (x y : List UInt8) (hx : x.length = 32) (hy : y.length = 32) (w : World) :
    Calls Try.prog 36 #[.agg (row32 x), .agg (row32 y)] w fun e w' => e = .returned (.bool (decide (x < y))) ∧ Below w.heap.size w w' := by
  have hT := Lib.hid (show (fun W => Blk W w.heap.size 30 (row32 x) ∧ Blk W (w.heap.size + 1) 30 (row32 y) ∧ Below w.heap.size w W) ((w.alloc (.cells (row32 x) 30)).alloc (.cells (row32 y) 30)) from
    ⟨(Blk.new w _ _).alloc _, Blk.new' (by simp), ((Below.refl w.heap.size w).alloc (Nat.le_refl _) _).alloc (by simp) _⟩)
  have s1 := row32_size hx
  have s2 := row32_size hy
  have hx' := Lib.hid hx
  have hy' := Lib.hid hy
  clear hx hy
  go_enter Try.func36, Try.ntmps36
  go_wp2_with fail
  refine code_at (fun W => Blk W w.heap.size 30 (row32 x) ∧ Blk W (w.heap.size + 1) 30 (row32 y) ∧ Below w.heap.size w W) hT.out ?_
  clear hT
  rintro w1 ⟨ha, hb, hB⟩
  replace ha := Lib.hid ha
  replace hb := Lib.hid hb
  replace hB := Lib.hid hB
  go_loopw [5] (fun i wr => ∃ k : Nat, k ≤ 32 ∧ i = .int .i64 k ∧ x.take k = y.take k ∧ ∃ d, wr = w1.drewN d) (fun i _ => 32 - (intOf i).toNat)
  case atStart => exact ⟨0, Nat.zero_le _, rfl, rfl, 0, rfl⟩
  case round =>
    obtain ⟨k, hk, rfl, htake, d, rfl⟩ := hrel
    have HT := Lib.hid htake
    clear htake
    by_cases hlt : k < 32
    · have kx : k < x.length := by have := hx'.out; omega
      have ky : k < y.length := by have := hy'.out; omega
      have cx : w1.cell? ⟨w.heap.size, k, none⟩ = some (.int .u8 (x[k].toNat : Int)) := by rw [ha.out.cell, ← Array.getElem?_toList]; exact bv_at x k kx
      have cy : w1.cell? ⟨w.heap.size + 1, k, none⟩ = some (.int .u8 (y[k].toNat : Int)) := by rw [hb.out.cell, ← Array.getElem?_toList]; exact bv_at y k ky
      have hk32 : (k : Int) < 32 := by omega
      have b1 := x[k].toNat_lt
      have b2 := y[k].toNat_lt
      by_cases hne : x[k] = y[k]
      · have hbb : ((x[k].toNat : Int) != (y[k].toNat : Int)) = false := by rw [hne]; simp
        have HE := Lib.hid hne
        clear hne
        go_wp2_with fail
        go_quiet (fail)
        go_wp2_with fail
        refine ⟨⟨k + 1, by omega, by go_num, take_next x y k kx ky HT.out HE.out, _, rfl⟩, ?_⟩
        simp [intOf]; omega
      · have hbb : ((x[k].toNat : Int) != (y[k].toNat : Int)) = true := by rw [bne_iff_ne]; intro e; exact hne (UInt8.toNat_inj.1 (by omega))
        have hd : decide ((x[k].toNat : Int) < (y[k].toNat : Int)) = decide (x < y) := decide_eq_decide.2 (by rw [lt_stop x y k kx ky HT.out hne, UInt8.lt_iff_toNat_lt]; omega)
        replace hd := Lib.hid hd
        clear hne
        go_wp2_with fail
        go_quiet (fail)
        go_wp2_with fail
        go_quiet (fail)
        go_wp2_with fail
        go_ret
        exact ⟨by rw [← hd.out]; simp [UInt8.lt_iff_toNat_lt], below_drewN (below_drewN (below_drewN hB.out _) _) _⟩
    · obtain rfl : k = 32 := by omega
      go_wp2_with fail
      go_ret
      have hxy : x = y := by have := HT.out; rwa [List.take_of_length_le (by rw [hx'.out]; omega), List.take_of_length_le (by rw [hy'.out]; omega)] at this
      exact ⟨by rw [hxy]; simp [List.lt_irrefl], below_drewN hB.out _⟩
end Go.Proofs.Ytioanppnkhiokaa

/-
  Lists of digests in memory.
-/
namespace Go.Proofs.Ytioanppnkhiokaa
open Go.RowKit

def dgrows (ds : List (List UInt8)) : List Value := (ds.map bv).flatten
theorem dgrows_append (a b : List (List UInt8)) : dgrows (a ++ b) = dgrows a ++ dgrows b := by simp [dgrows]
theorem dgrows_one (d : List UInt8) : dgrows [d] = bv d := by simp [dgrows]
theorem dgrows_length : ∀ {ds : List (List UInt8)}, (∀ d ∈ ds, d.length = 32) → (dgrows ds).length = ds.length * 32
  | [], _ => rfl
  | x :: r, h => by
    have h1 : (bv x).length = 32 := by rw [bv_length]; exact h x (by simp)
    have h2 := dgrows_length (ds := r) fun o ho => h o (List.mem_cons_of_mem _ ho)
    simp only [dgrows, List.map_cons, List.flatten_cons, List.length_append, List.length_cons] at *
    omega
theorem dgrows_at : ∀ {ds : List (List UInt8)}, (∀ d ∈ ds, d.length = 32) → ∀ (k : Nat) (hk : k < ds.length) (j : Nat), j < 32 → (dgrows ds)[k * 32 + j]? = (bv ds[k])[j]?
  | [], _, k, hk, _, _ => by simp at hk
  | x :: r, h, 0, _, j, hj => by
    have h1 : (bv x).length = 32 := by rw [bv_length]; exact h x (by simp)
    simp only [dgrows, List.map_cons, List.flatten_cons, List.getElem_cons_zero, Nat.zero_mul, Nat.zero_add]
    rw [List.getElem?_append_left (by omega)]
  | x :: r, h, k + 1, hk, j, hj => by
    have h1 : (bv x).length = 32 := by rw [bv_length]; exact h x (by simp)
    have h2 := dgrows_at (ds := r) (fun o ho => h o (List.mem_cons_of_mem _ ho)) k (by simpa using hk) j hj
    simp only [dgrows, List.map_cons, List.flatten_cons, List.getElem_cons_succ] at *
    rw [List.getElem?_append_right (by omega), ← h2]
    congr 1
    omega
theorem dgrows_one_cell (ds : List (List UInt8)) : ∀ u ∈ dgrows ds, u.oneCell' = true := by
  intro u hu
  simp only [dgrows, List.mem_flatten, List.mem_map] at hu
  obtain ⟨_, ⟨d, _, rfl⟩, hu⟩ := hu
  exact bv_one _ u hu
structure DsIs (w : World) (B : Nat) (L : List (List UInt8)) (A : Option Addr) (n c : Nat) : Prop where
  len : n = L.length
  cap : n ≤ c
  lim : c ≤ maxLen
  ds : ∀ d ∈ L, d.length = 32
  rd : Reads w B 32 A n (dgrows L)
section
variable {w w' : World} {B B' : Nat} {L : List (List UInt8)} {A : Option Addr} {n c : Nat}
theorem DsIs.nil (w : World) (B : Nat) : DsIs w B [] none 0 0 := ⟨rfl, Nat.le_refl _, Nat.zero_le _, by simp, Reads.none_⟩
theorem DsIs.below (h : DsIs w B L A n c) (hb : Below B w w') : DsIs w' B L A n c := ⟨h.len, h.cap, h.lim, h.ds, h.rd.below hb⟩
theorem DsIs.more (h : DsIs w B L A n c) (hB : B ≤ B') : DsIs w B' L A n c := ⟨h.len, h.cap, h.lim, h.ds, h.rd.more hB⟩
theorem DsIs.row (h : DsIs w B L A n c) (k : Nat) (hk : k < L.length) : ∃ g o, A = some ⟨g, o, none⟩ ∧ g < B ∧ w.rangeAt g (o + k * 32) (bv L[k]) := by
  obtain ⟨h1, h2⟩ := h.rd
  have hl := h.len
  obtain ⟨g, o, e, hg, hc⟩ := h2 (by omega)
  refine ⟨g, o, e, hg, fun j u hu => ?_⟩
  have hj : j < 32 := by
    have := (List.getElem?_eq_some_iff.1 hu).1
    rwa [bv_length, h.ds _ (List.getElem_mem hk)] at this
  rw [Nat.add_assoc]
  refine hc _ _ ?_
  rw [dgrows_at h.ds k hk j hj]
  exact hu
end
/-- a list of digests that is appended to -/
structure DsL (B : Nat) (w : World) (A : Option Addr) (m c : Nat) (L : List (List UInt8)) : Prop where
  own : w.ownsRow B 30 32 (.slice A m c) m (dgrows L)
  len : m = L.length
  ds : ∀ d ∈ L, d.length = 32
theorem info_dig4 : (Try.prog.info? 30).map (fun i => (i.zero, i.size, i.bytes)) = some (some (.agg (row32 zero32)), 32, 32) := by kernel_rfl
section
variable {B m c : Nat} {w w' : World} {A : Option Addr} {L : List (List UInt8)}
theorem DsL.start : DsL B w none 0 0 [] := ⟨World.ownsRow_nil _ _ _ _, rfl, by simp⟩
theorem DsL.below (h : DsL B w A m c L) (hb : Below w.heap.size w w') : DsL B w' A m c L := by
  refine ⟨h.own.kept (row := none) ⟨hb.os, hb.tape, hb.output, hb.size, fun k hk _ => hb.block k hk⟩ ?_, h.len, h.ds⟩
  cases e : (Value.slice A m c).ownBlock with
  | none => exact .inl rfl
  | some q => exact .inr (by simp)
theorem DsL.far (h : DsL B w A m c L) {g : Nat} (hg : w.grownBy w' (some g)) (hne : (Value.slice A m c).ownBlock ≠ some g) : DsL B w' A m c L := by
  refine ⟨h.own.kept hg ?_, h.len, h.ds⟩
  cases e : (Value.slice A m c).ownBlock with
  | none => exact .inl rfl
  | some q => exact .inr (by rw [← e]; exact hne)
theorem DsL.is_ (h : DsL B w A m c L) : DsIs w w.heap.size L A m c := by
  have ho := Own.of_row h.own
  exact ⟨h.len, ho.cap, ho.lim, h.ds, ho.reads⟩
/-- '[]Digest{x}' -/
theorem wpList_build_dig {ops : Array Oper} {rest : List Oper} {o : Oper} {a : Act} {Q : Exit → Act → World → Prop} (hg : o.guard = none) (parts : Array (Nat × Operand)) (ho : o.op = .buildSlice 49 1 parts)
    (x : List UInt8) (hd : x.length = 32) (hp : parts.toList.map (fun (i, y) => (i, a.eval y)) = [(0, .agg (row32 x))])
    (h : wpList Try.prog ops Q rest (a.put o.dst (.slice (some ⟨w.heap.size, 0, none⟩) 1 1)) (w.alloc (.cells (row32 x) 30))) : wpList Try.prog ops Q (o :: rest) a w := by
  obtain ⟨i0, hi, hz0, hz1, hz2⟩ := info_parts info_dig4
  refine wpList_buildSlice hg 49 30 1 parts ho (row32 x) i0 (.agg (row32 zero32)) Try.underlying49 hi hz0 (by rw [hz1]; decide) (by rw [hz1]; decide) ?_ h
  rw [Array.toList_map, hp, hz1]
  have hl : (row32 x).toList.length = 32 := by rw [Array.length_toList, row32_size hd]
  have hc0 : ((Array.range (1 * 32)).map ((Value.agg (row32 zero32)).cells[· % (Value.agg (row32 zero32)).cells.size]!)).size = 32 := by simp
  generalize (Array.range (1 * 32)).map ((Value.agg (row32 zero32)).cells[· % (Value.agg (row32 zero32)).cells.size]!) = cs0 at *
  have hf := fold_set (.agg (row32 x)) (row32 x).toList rfl 0 cs0 (by rw [hl, hc0]; omega)
  unfold Instr.fill
  rw [show (some (0 * 32, 32) : Option (Nat × Nat)) = some (0, 32) from rfl]
  simp only
  rw [if_neg (by
    show ¬ ((decide ((row32 x).size ≠ 32) || decide (0 + (row32 x).size > cs0.size)) = true)
    rw [row32_size hd, hc0]; decide)]
  unfold Instr.fill
  have e : (cs0.toList.take 0 ++ (row32 x).toList ++ cs0.toList.drop (0 + (row32 x).toList.length)).toArray = row32 x := by
    have : cs0.toList.drop (0 + 32) = [] := List.drop_eq_nil_of_le (by rw [Array.length_toList, hc0]; omega)
    rw [hl, this, List.take_zero, List.nil_append, List.append_nil, Array.toArray_toList]
  rw [hf, e]
/-- 'x = append(x, rows ..)' -/
theorem wpList_append_digs {ops : Array Oper} {rest : List Oper} {o : Oper} {a : Act} {Q : Exit → Act → World → Prop} {B2 n2 c2 : Nat} {A2 : Option Addr} {M : List (List UInt8)} (hgd : o.guard = none) (s y : Operand)
    (ho : o.op = .call { callee := .builtin .append, args := #[s, y], argTypes := #[49, 49] })
    (h : DsL B w A m c L) (hB : B ≤ w.heap.size) (hs : a.eval s = .slice A m c) (hx : a.eval y = .slice A2 n2 c2) (hM : DsIs w B2 M A2 n2 c2)
    (hlim : (m + n2) * 32 ≤ 140737488355328)
    (H : ∀ A' c' w', DsL B w' A' (m + n2) c' (L ++ M) → w.grownBy w' (Value.slice A m c).ownBlock → ((Value.slice A' (m + n2) c').ownBlock = (Value.slice A m c).ownBlock ∨ (∃ q, (Value.slice A' (m + n2) c').ownBlock = some q ∧ w.heap.size ≤ q)) → wpList Try.prog ops Q rest (a.put o.dst (.slice A' (m + n2) c')) w') : wpList Try.prog ops Q (o :: rest) a w := by
  obtain ⟨i0, hi, hz0, hz1, hz2⟩ := info_parts info_dig4
  refine wpList_append_any w hgd s y 49 ho B 30 i0 (.agg (row32 zero32)) 32 32 Try.underlying49 hi hz0 hz1 hz2 (by kernel_rfl) (by omega) (.slice A m c) m (dgrows L) hs h.own B2 A2 n2 c2 (dgrows M) hx hM.rd (dgrows_one_cell M) (by unfold maxLen; omega) hlim hB ?_
  intro v' w' hown hg hob
  rw [← dgrows_append] at hown
  have hds : ∀ d ∈ L ++ M, d.length = 32 := fun o ho => (List.mem_append.1 ho).elim (h.ds o) (hM.ds o)
  have hlen : m + n2 = (L ++ M).length := by rw [List.length_append, ← h.len, ← hM.len]
  obtain ⟨A', c', rfl⟩ : ∃ A' c', v' = .slice A' (m + n2) c' := by
    rcases hown.2 with ⟨rfl, h0⟩ | ⟨g, cap, cur, rfl, _⟩
    · exact ⟨none, 0, by rw [h0]⟩
    · exact ⟨_, _, rfl⟩
  exact H A' c' w' ⟨hown, hlen, hds⟩ hg (hob.imp id fun e => ⟨_, e, Nat.le_refl _⟩)
end
theorem dig_one (w : World) (x : List UInt8) (hd : x.length = 32) : DsIs (w.alloc (.cells (row32 x) 30)) (w.heap.size + 1) [x] (some ⟨w.heap.size, 0, none⟩) 1 1 := by
  refine ⟨rfl, Nat.le_refl _, by unfold maxLen; omega, by simpa using hd, ⟨by rw [dgrows_one, bv_length, hd], fun _ => ⟨w.heap.size, 0, rfl, Nat.lt_succ_self _, fun j u hu => ?_⟩⟩⟩
  rw [dgrows_one] at hu
  exact (Blk.new w _ (row32 x)).range j u hu
end Go.Proofs.Ytioanppnkhiokaa

/-
  slices.AppendSeq, slices.Collect over an iterator of digests.
-/
namespace Go.Proofs.Ytioanppnkhiokaa
open Go.RowKit Go.Sort

theorem DsL.block {B m c : Nat} {w : World} {A : Option Addr} {L : List (List UInt8)} (h : DsL B w A m c L) : ∀ (j : Nat) (o : Obj), (Value.slice A m c).ownBlock = some j → w.heap[j]? = some o → o.isCells = true := by
  intro j o hj ho
  rcases h.own.2 with ⟨h0, _⟩ | ⟨g, cap, cur, h0, _, hgb, _⟩
  · cases h0; cases hj
  · cases h0
    have e : g = j := by simpa [Value.ownBlock] using hj
    subst e
    rw [hgb] at ho
    cases ho
    rfl
/-- in the midst of AppendSeq -/
structure ApI (w : World) (ss : List Dg) (W : World) : Prop where
  box : ∃ A m c, Blk W w.heap.size 49 #[.slice A m c] ∧ DsL (w.heap.size + 1) W A m c (ss.map (·.1))
  bel : Below w.heap.size w W
theorem ApI.grown {w W W' : World} {ss : List Dg} {row : Option Nat} (h : ApI w ss W) (hg : W.grownBy W' row) (hr : ∀ r, row = some r → w.heap.size + 1 ≤ r ∧ ∃ o : Obj, W.heap[r]? = some o ∧ o.isCells = false) : ApI w ss W' := by
  obtain ⟨A, m, c, hb, hd⟩ := h.box
  refine ⟨⟨A, m, c, (hg.block _ hb.lt (fun e => by have := (hr _ e.symm).1; omega)).trans hb, ⟨hd.own.kept hg ?_, hd.len, hd.ds⟩⟩, h.bel.grown hg h.bel.size (fun k e => by have := (hr k e).1; omega)⟩
  cases e : (Value.slice A m c).ownBlock with
  | none => exact .inl rfl
  | some q =>
    refine .inr fun e2 => ?_
    obtain ⟨_, o, ho, hc⟩ := hr q e2.symm
    rw [hd.block q o e ho] at hc
    cases hc
theorem ap_own (w : World) (B : Nat) (hB : w.heap.size + 1 ≤ B) : OwnFrom B (fun (ss : List Dg) W => ApI w ss W) :=
  fun _ _ _ _ hs hg hr => hs.grown hg (fun r e => ⟨Nat.le_trans hB (hr r e).1, (hr r e).2⟩)
section
variable {F : Fence} {nF : Nat} {ops : Array Oper} {rest : List Oper} {o : Oper} {a : Act} {w : World} {Q : Exit → Act → World → Prop}
theorem wpListIn_build_dig (hg : o.guard = none) (parts : Array (Nat × Operand)) (ho : o.op = .buildSlice 49 1 parts)
    (x : List UInt8) (hd : x.length = 32) (hp : parts.toList.map (fun (i, y) => (i, a.eval y)) = [(0, .agg (row32 x))])
    (h : wpListIn F nF Try.prog ops Q rest (a.put o.dst (.slice (some ⟨w.heap.size, 0, none⟩) 1 1)) (w.alloc (.cells (row32 x) 30))) : wpListIn F nF Try.prog ops Q (o :: rest) a w := by
  obtain ⟨i0, hi, hz0, hz1, hz2⟩ := info_parts info_dig4
  refine wpListIn_buildSlice hg 49 30 1 parts ho (row32 x) i0 (.agg (row32 zero32)) Try.underlying49 hi hz0 (by rw [hz1]; decide) (by rw [hz1]; decide) ?_ h
  rw [Array.toList_map, hp, hz1]
  have hl : (row32 x).toList.length = 32 := by rw [Array.length_toList, row32_size hd]
  have hc0 : ((Array.range (1 * 32)).map ((Value.agg (row32 zero32)).cells[· % (Value.agg (row32 zero32)).cells.size]!)).size = 32 := by simp
  generalize (Array.range (1 * 32)).map ((Value.agg (row32 zero32)).cells[· % (Value.agg (row32 zero32)).cells.size]!) = cs0 at *
  have hf := fold_set (.agg (row32 x)) (row32 x).toList rfl 0 cs0 (by rw [hl, hc0]; omega)
  unfold Instr.fill
  rw [show (some (0 * 32, 32) : Option (Nat × Nat)) = some (0, 32) from rfl]
  simp only
  rw [if_neg (by
    show ¬ ((decide ((row32 x).size ≠ 32) || decide (0 + (row32 x).size > cs0.size)) = true)
    rw [row32_size hd, hc0]; decide)]
  unfold Instr.fill
  have e : (cs0.toList.take 0 ++ (row32 x).toList ++ cs0.toList.drop (0 + (row32 x).toList.length)).toArray = row32 x := by
    have : cs0.toList.drop (0 + 32) = [] := List.drop_eq_nil_of_le (by rw [Array.length_toList, hc0]; omega)
    rw [hl, this, List.take_zero, List.nil_append, List.append_nil, Array.toArray_toList]
  rw [hf, e]
theorem wpListIn_append_dig {B m c g : Nat} {A : Option Addr} {L : List (List UInt8)} {d : List UInt8} (hgd : o.guard = none) (s y : Operand)
    (ho : o.op = .call { callee := .builtin .append, args := #[s, y], argTypes := #[49, 49] })
    (h : DsL B w A m c L) (hB : B ≤ w.heap.size) (hs : a.eval s = .slice A m c) (hx : a.eval y = .slice (some ⟨g, 0, none⟩) 1 1) (hg : Blk w g 30 (row32 d)) (hd : d.length = 32)
    (hlim : (m + 1) * 32 ≤ 140737488355328)
    (H : ∀ A' c' w', DsL B w' A' (m + 1) c' (L ++ [d]) → w.grownBy w' (Value.slice A m c).ownBlock → wpListIn F nF Try.prog ops Q rest (a.put o.dst (.slice A' (m + 1) c')) w') : wpListIn F nF Try.prog ops Q (o :: rest) a w := by
  obtain ⟨i0, hi, hz0, hz1, hz2⟩ := info_parts info_dig4
  refine wpListIn_append_own w hgd s y 49 ho B 30 i0 (.agg (row32 zero32)) 32 32 Try.underlying49 hi hz0 hz1 hz2 (by kernel_rfl) (by omega) (.slice A m c) m (dgrows L) hs h.own ⟨g, 0, none⟩ 1 1 (bv d) hx (by rw [bv_length, hd])
    (fun j u hu => ?_) (bv_one d) (by unfold maxLen; omega) hlim hB ?_
  · have e : (⟨g, 0, none⟩ : Addr).add j = ⟨g, j, none⟩ := by simp [Addr.add]; intro h; exact h.symm
    rw [e, hg.cell, ← Array.getElem?_toList]
    exact hu
  intro v' w' hown hgr hnil
  have e : dgrows L ++ bv d = dgrows (L ++ [d]) := by rw [dgrows_append, dgrows_one]
  rw [e] at hown
  have hds : ∀ x ∈ L ++ [d], x.length = 32 := fun x hx => by
    rcases List.mem_append.1 hx with hx | hx
    · exact h.ds x hx
    · rw [List.mem_singleton.1 hx]; exact hd
  have hlen : m + 1 = (L ++ [d]).length := by rw [List.length_append, ← h.len]; rfl
  obtain ⟨A', c', rfl⟩ : ∃ A' c', v' = .slice A' (m + 1) c' := by
    rcases hown.2 with ⟨rfl, h0⟩ | ⟨g, cap, cur, rfl, _⟩
    · omega
    · exact ⟨_, _, rfl⟩
  exact H A' c' w' ⟨hown, hlen, hds⟩ hgr
end
theorem ap_mid {w W w5 : World} {A : Option Addr} {m c : Nat} {L : List (List UInt8)} {o : Obj} (hb : Blk W w.heap.size 49 #[.slice A m c]) (hds : DsL (w.heap.size + 1) W A m c L) (hg : (W.alloc o).grownBy w5 (Value.slice A m c).ownBlock) : Blk w5 w.heap.size 49 #[.slice A m c] :=
  (hg.block _ (by have := hb.lt; simp; omega) (fun e => by have := (hds.own.lt _ e.symm).1; omega)).trans (hb.alloc o)
theorem ap_next {w W w5 : World} {A A5 : Option Addr} {m c m5 c5 B : Nat} {ss : List Dg} {d : List UInt8} {o : Obj} (hd : d.length = 32) (hb : Blk W w.heap.size 49 #[.slice A m c]) (hds : DsL (w.heap.size + 1) W A m c (ss.map (·.1))) (hbel : Below w.heap.size w W)
    (h5 : DsL (w.heap.size + 1) w5 A5 m5 c5 (ss.map (·.1) ++ [d])) (hg : (W.alloc o).grownBy w5 (Value.slice A m c).ownBlock) :
    KeepsFrom B W (w5.setCell ⟨w.heap.size, 0, none⟩ (.slice A5 m5 c5)) ∧ KeepsWalks W (w5.setCell ⟨w.heap.size, 0, none⟩ (.slice A5 m5 c5)) ∧ ApI w (ss ++ [⟨d, hd⟩]) (w5.setCell ⟨w.heap.size, 0, none⟩ (.slice A5 m5 c5)) := by
  have hds' := hds.below ((Below.refl W.heap.size W).alloc (Nat.le_refl _) o)
  have hk : KeepsOthers W (w5.setCell ⟨w.heap.size, 0, none⟩ (.slice A5 m5 c5)) := ((KeepsOthers.alloc W o).trans (KeepsOthers.of_grownBy hg hds'.block)).trans (KeepsOthers.setCell _ _ _)
  refine ⟨hk.from B, hk.walks, ⟨A5, m5, c5, (ap_mid hb hds hg).set_ 0 _, ?_⟩, ?_⟩
  · rw [List.map_append]
    exact h5.far (grown_set (World.grownBy.refl w5 _)) (fun e => by have := (h5.own.lt _ e).1; omega)
  · exact ((hbel.alloc hbel.size o).grown hg (by have := hbel.size; simp; omega) (fun k e => by have := (hds'.own.lt k e).1; omega)).setCell (Nat.le_refl _) _
set_option maxRecDepth 100000 in
set_option maxHeartbeats 4000000 in
theorem appendSeqD (n : Nat) (hn : 1 ≤ n) (g : Nat) (lb : Array Value) (eg : ∀ args w, (callFunc g args).run Try.prog w = .ok (.enter g args) w) (S Sp : List Dg → Prop) (N : Nat) (hNb : N * 32 ≤ 140737488355328) (w : World)
    (hseq : SeqStopsK Fence.wide (n - 1) Try.prog g lb (fun x : Dg => #[encV x]) KeepsWalks S Sp N w) :
    CallsIn Fence.wide n Try.prog 49 #[.slice none 0 0, .func (.func g) #[] lb] w fun e w' => ∃ (A : Option Addr) (c : Nat) (ss : List Dg), e = .returned (.slice A ss.length c) ∧ S ss ∧ DsL (w.heap.size + 1) w' A ss.length c (ss.map (·.1)) ∧ Below w.heap.size w w' := by
  refine callsIn_of_wp_marks Try.func49 rfl trivial ?_ rfl
  simp only [Try.ntmps49, List.size_toArray, List.length_cons, List.length_nil, Nat.reduceAdd, Nat.reduceSub, Array.replicate_succ, Array.replicate_zero, List.push_toArray, List.append_toArray, List.nil_append, List.cons_append]
  gi_wp2
  obtain ⟨W0, hW0⟩ : ∃ W0, w.alloc (.cells #[.slice none 0 0] 49) = W0 := ⟨_, rfl⟩
  have hs0 : W0.heap.size = w.heap.size + 1 := by rw [← hW0]; simp
  have hb0 : Below w.heap.size w W0 := by rw [← hW0]; exact (Below.refl _ w).alloc (Nat.le_refl _) _
  have hI0 : ApI w [] W0 := by rw [← hW0]; exact ⟨⟨none, 0, 0, Blk.new _ _ _, DsL.start⟩, (Below.refl _ w).alloc (Nat.le_refl _) _⟩
  rw [hW0]
  clear hW0
  refine wpIn_rangeFunc_ownH rfl hn (gf := g) (lb := lb) rfl trivial eg hseq walksK_t walksK_b hb0 (fun _ => rfl)
    (fun ss W => ApI w ss W) (fun _ _ _ => False) (ap_own w _ (by omega)) (fun _ _ _ _ _ hs _ _ => hs) hI0
    (fun x a' W => ∃ Bx, w.heap.size < Bx ∧ Blk W Bx 30 (row32 x.1) ∧ a' = { tmps := #[.slice none 0 0, .func (.func g) #[] lb, .pointer (some ⟨w.heap.size, 0, none⟩), undef, .slice none 0 0, .pointer (some ⟨Bx, 0, none⟩), .func (.func g) #[] lb, .agg (row32 x.1), undef, undef, undef, undef, undef], defers := [] })
    (fun x a' _ X Y row hs hg hr => by
      obtain ⟨Bx, h1, h2, h3⟩ := hs
      refine ⟨Bx, h1, (hg.block _ h2.lt (fun e => ?_)).trans h2, h3⟩
      obtain ⟨_, o, ho, hc⟩ := hr Bx e.symm
      have h2' : X.heap[Bx]? = some (.cells (row32 x.1) 30 (0, 0)) := h2
      rw [h2'] at ho
      cases ho
      cases hc)
    ?assign ?body ?done ?stop
  case assign =>
    rintro l pre x W K hi hK
    obtain ⟨d, hd⟩ := x
    have hsd := row32_size hd
    unfold encV digV
    have hgo := Lib.hid (fun (W3 : World) (h1 : W.grownBy W3 none) (h2 : Blk W3 W.heap.size 30 (row32 d)) =>
      hK { tmps := #[.slice none 0 0, .func (.func g) #[] lb, .pointer (some ⟨w.heap.size, 0, none⟩), undef, .slice none 0 0, .pointer (some ⟨W.heap.size, 0, none⟩), .func (.func g) #[] lb, .agg (row32 d), undef, undef, undef, undef, undef], defers := [] } W3
        ((KeepsOthers.of_grownBy h1 (fun j o e => by cases e)).from _) (KeepsWalks.of_grownBy h1 (fun j o e => by cases e)) (hi.grown h1 (fun r e => by cases e)) ⟨W.heap.size, by obtain ⟨A, m, c, hb, _⟩ := hi.box; exact hb.lt, h2, rfl⟩)
    clear hi hK
    gi_wp2_with (first
      | (refine wpListIn_store_row rfl 30 _ _ rfl W.heap.size (row32 d) rfl rfl _ _ (Blk.zeros W _ 30 rfl) (by rw [hsd]; exact info_digest) (by rw [hsd]; rfl) (row32_one _) ?_; refine opsIn_at (fun W3 => W.grownBy W3 none ∧ Blk W3 W.heap.size 30 (row32 d)) ⟨grown_stored _ _ _ _, (Blk.new W _ _).row _⟩ ?_; rintro w3 ⟨hg3, hb3⟩; replace hgo := Lib.hid (hgo.out w3 hg3 hb3); clear hg3 hb3)
      | (rw [Oper.semAt_eq _ _ _ (fun c h => by cases h)]; go_simp; try go_bits))
    exact hgo.out
  case body =>
    rintro l pre x a' W hl - hi ⟨Bx, hBx, hbx, rfl⟩ hlt
    obtain ⟨d, hd⟩ := x
    have hsd := row32_size hd
    obtain ⟨A, m, c, hb, hds⟩ := hi.box
    have hm := hds.len
    rw [List.length_map] at hm
    have c2 : W.cell? ⟨w.heap.size, 0, none⟩ = some (.slice A m c) := hb.cell 0
    have hOn := Lib.hid (hds.below ((Below.refl W.heap.size W).alloc (Nat.le_refl _) (.cells (row32 d) 30)))
    have hlm := Lib.hid (show (m + 1) * 32 ≤ 140737488355328 by omega)
    have hsz := Lib.hid hb.lt
    have hN := Lib.hid (fun w5 A5 c5 (h5 : DsL (w.heap.size + 1) w5 A5 (m + 1) c5 (pre.map (·.1) ++ [d])) (h6 : (W.alloc (.cells (row32 d) 30)).grownBy w5 (Value.slice A m c).ownBlock) => (⟨(ap_mid hb hds h6), ap_next (B := w.heap.size + 1) hd hb hds hi.bel h5 h6⟩ : Blk w5 w.heap.size 49 #[.slice A m c] ∧ _))
    replace hbx := Lib.hid hbx
    clear hi hb hds
    replace hm := Lib.hid hm
    gi_wp2_with (first
      | (refine wpListIn_load_row rfl 30 _ rfl Bx rfl _ (row32 d) _ _ hbx.out Try.underlying30 rfl (by rw [hsd]; exact info_digest) ?_)
      | (refine wpListIn_build_dig rfl _ rfl d hd rfl ?_)
      | (gi_at_builtin; refine wpListIn_append_dig rfl _ _ rfl hOn.out (by have := hsz.out; simp; omega) rfl rfl (Blk.new W _ _) hd hlm.out ?_; intro A5 c5 w5 hL5 hg5; have hN5 := hN.out w5 A5 c5 hL5 hg5; have c5t := hN5.1.cell 0; have f5t := hN5.1.frozen 0; simp only [List.getElem?_toArray, List.getElem?_cons_zero] at c5t; replace hN5 := Lib.hid hN5.2; clear hL5 hg5)
      | (rw [Oper.semAt_eq _ _ _ (fun c h => by cases h)]; go_simp; try go_bits))
    exact hN5.out
  case done =>
    rintro D ys W hD hS hi hK
    obtain ⟨A, m, c, hb, hds⟩ := hi.box
    have hm := hds.len
    rw [List.length_map] at hm
    subst hm
    have c2 : W.cell? ⟨w.heap.size, 0, none⟩ = some (.slice A ys.length c) := hb.cell 0
    have hbel := hi.bel
    have hI2 := Lib.hid (hi.grown (grownBy_putObj' W D (.deferred none)) (fun r e => by cases e; exact ⟨by omega, _, hK, rfl⟩))
    have hL2 := Lib.hid (show DsL (w.heap.size + 1) (W.putObj D (.deferred none)) A ys.length c (ys.map (·.1)) from ⟨hds.own.kept (grownBy_putObj' W D (.deferred none)) (by
      cases e : (Value.slice A ys.length c).ownBlock with
      | none => exact .inl rfl
      | some q =>
        refine .inr fun e2 => ?_
        have := hds.block q _ e (by cases e2; exact hK)
        cases this), hds.len, hds.ds⟩)
    clear hi hb hds
    gi_wp2
    refine ⟨by simp, .inl ⟨_, _, rfl, run_takeDeferred hK, ?_⟩⟩
    exact ⟨_, results_tmp rfl _ _ _, A, c, ys, rfl, hS, hL2.out, hI2.out.bel⟩
  case stop =>
    rintro D c pre W _ _ h _
    exact h.elim
/-- slices.Collect -/
theorem collectD (n : Nat) (hn : 2 ≤ n) (g : Nat) (lb : Array Value) (eg : ∀ args w, (callFunc g args).run Try.prog w = .ok (.enter g args) w) (S Sp : List Dg → Prop) (N : Nat) (hNb : N * 32 ≤ 140737488355328) (w : World)
    (hseq : SeqStopsK Fence.wide (n - 1 - 1) Try.prog g lb (fun x : Dg => #[encV x]) KeepsWalks S Sp N w) :
    CallsIn Fence.wide n Try.prog 41 #[.func (.func g) #[] lb] w fun e w' => ∃ (A : Option Addr) (c : Nat) (ss : List Dg), e = .returned (.slice A ss.length c) ∧ S ss ∧ DsL (w.heap.size + 1) w' A ss.length c (ss.map (·.1)) ∧ Below w.heap.size w w' := by
  have h1 : 1 ≤ n := by omega
  have hf : Fence.wide.fn 49 := trivial
  refine callsIn_of_wp Try.func41 rfl trivial ?_ rfl
  simp only [Try.ntmps41, List.size_toArray, List.length_cons, List.length_nil, Nat.reduceAdd, Nat.reduceSub, Array.replicate_succ, Array.replicate_zero, List.push_toArray, List.append_toArray, List.nil_append, List.cons_append]
  gi_wp2_with (gi_at_call 49; refine (appendSeqD (n - 1) (by omega) g lb eg S Sp N hNb _ hseq).mono ?_; rintro e w' ⟨A, c, ss, rfl, hS, hrow, hb⟩)
  go_ret
  exact ⟨A, c, ss, rfl, hS, hrow, hb⟩
end Go.Proofs.Ytioanppnkhiokaa

/-
  slices.SortedFunc over the store's map; nodedb's List.
-/
namespace Go.Proofs.Ytioanppnkhiokaa
open Go.RowKit Go.Sort

theorem swoD : SWO (ltOf cmpD) := by
  have e : ∀ x y : Dg, ltOf cmpD x y = decide (x.1 < y.1) := fun x y => decide_eq_decide.2 (cmp_lt x.1 y.1)
  refine ⟨fun x => ?_, fun x y z h1 h2 => ?_, fun x y z h1 h2 => ?_⟩
  · rw [e]; exact decide_eq_false (List.lt_irrefl _)
  · rw [e, decide_eq_true_eq] at *; exact List.lt_trans h1 h2
  · rw [e, decide_eq_false_iff_not] at *
    intro h
    rcases List.le_total x.1 y.1 with hl | hl
    · rcases List.le_iff_lt_or_eq.1 hl with hl | hl
      · exact h1 hl
      · rw [hl] at h; exact h2 h
    · rcases List.le_iff_lt_or_eq.1 hl with hl | hl
      · exact h2 (List.lt_trans hl h)
      · rw [← hl] at h; exact h2 h
theorem totD (x y : Dg) (h1 : ltOf cmpD x y = false) (h2 : ltOf cmpD y x = false) : x = y := by
  have e : ∀ x y : Dg, ltOf cmpD x y = decide (x.1 < y.1) := fun x y => decide_eq_decide.2 (cmp_lt x.1 y.1)
  rw [e, decide_eq_false_iff_not] at h1 h2
  refine Subtype.ext ?_
  rcases List.le_total x.1 y.1 with hl | hl
  · exact (List.le_iff_lt_or_eq.1 hl).resolve_left h1
  · exact ((List.le_iff_lt_or_eq.1 hl).resolve_left h2).symm
def sortD' (ss : List Dg) : List Dg := ss.mergeSort fun x y => !(ltOf cmpD) y x
theorem sortD_perm (ss : List Dg) : ((sortD' ss).map (·.1)).Perm (ss.map (·.1)) := (List.mergeSort_perm _ _).map _
theorem sortD_up (ss : List Dg) (hn : (ss.map (·.1)).Nodup) : ((sortD' ss).map (·.1)).Pairwise (· < ·) := by
  have e : ∀ x y : Dg, ltOf cmpD x y = decide (x.1 < y.1) := fun x y => decide_eq_decide.2 (cmp_lt x.1 y.1)
  have h1 : (sortD' ss).Pairwise fun x y => (!(ltOf cmpD) y x) = true := by
    refine List.pairwise_mergeSort (fun a b c h1 h2 => ?_) (fun a b => ?_) ss
    · simp only [e, Bool.not_eq_true', decide_eq_false_iff_not, List.not_lt] at *
      exact List.le_trans h1 h2
    · simp only [e, Bool.or_eq_true, Bool.not_eq_true', decide_eq_false_iff_not, List.not_lt]
      exact List.le_total _ _
  have h2 : ((sortD' ss).map (·.1)).Nodup := (sortD_perm ss).nodup_iff.2 hn
  have h3 := List.pairwise_map.1 h2
  refine List.pairwise_map.2 ((h1.and h3).imp fun {a b} h => ?_)
  simp only [e, Bool.not_eq_true', decide_eq_false_iff_not, List.not_lt] at h
  exact (List.le_iff_lt_or_eq.1 h.1).resolve_right h.2
theorem flat_at (ts : List Dg) (t : Nat) (ht : t < ts.length * 32) : (dgrows (ts.map (·.1)))[t]? = some (flatK encD 32 ts.toArray)[t]! := by
  have hk : t / 32 < ts.length := by omega
  have e : t = (t / 32) * 32 + t % 32 := by omega
  have hds : ∀ d ∈ ts.map (·.1), d.length = 32 := fun d hd => by obtain ⟨x, _, rfl⟩ := List.mem_map.1 hd; exact x.2
  have h1 := dgrows_at hds (t / 32) (by rw [List.length_map]; exact hk) (t % 32) (by omega)
  rw [← e] at h1
  rw [h1, get_flatK _ _ _ _ (by simpa using ht)]
  simp only [List.getElem_map, encD]
  have e2 : ts.toArray[t / 32]! = ts[t / 32] := by simp [hk]
  rw [e2]
  have hl : t % 32 < (bv ts[t / 32].1).length := by rw [bv_length, ts[t / 32].2]; omega
  rw [List.getElem?_eq_getElem hl]
  simp [hl]
theorem holds_dg {w : World} {g : Nat} {cur : Array Value} {e : TypeId} {ts : List Dg} (hb : w.heap[g]? = some (.cells cur e (0, 0))) (ht : cur.toList.take (ts.length * 32) = dgrows (ts.map (·.1))) : HoldsK encD 32 w g 0 ts.toArray := by
  intro j hj
  have hj' : j < ts.length * 32 := by simpa using hj
  refine ⟨?_, by simp [World.frozen?, hb]⟩
  have h1 := flat_at ts j hj'
  rw [← ht, List.getElem?_take_of_lt hj'] at h1
  simp only [World.cell?, hb, Nat.zero_add]
  simp only [Option.isSome_none, Bool.false_eq_true, if_false]
  rw [← Array.getElem?_toList, h1]
  rfl
theorem heap_sortedD {w : World} {g n : Nat} {os : Array Obj} {cur : Array Value} {e : TypeId} {fr : Nat × Nat} (F : Array Value) (hb : w.heap[g]? = some (.cells cur e fr)) :
    (grow (putRow id (Sort.ahead w n) g 0 F) os).heap[g]? = some (.cells (putCells id 0 F cur) e fr) := by
  have hg : g < w.heap.size := (Array.getElem?_eq_some_iff.1 hb).1
  rw [heap_grow_old _ _ (by simpa using hg)]
  simp [putRow, mapBlock, Sort.ahead, Array.getElem?_modify, hb, onCells]
theorem grownBy_sortedD {w : World} {g n : Nat} {os : Array Obj} (F : Array Value) : w.grownBy (grow (putRow id (Sort.ahead w n) g 0 F) os) (some g) := by
  refine ⟨rfl, rfl, rfl, by simp, fun k hk hne => ?_⟩
  rw [heap_grow_old _ _ (by simpa using hk)]
  have : g ≠ k := fun e => hne (by rw [e])
  simp [putRow, mapBlock, Sort.ahead, Array.getElem?_modify, this]
theorem take_putCellsD (cur F : Array Value) (h : F.size ≤ cur.size) : (putCells id 0 F cur).toList.take F.size = F.toList := by
  apply List.ext_getElem?
  intro j
  by_cases hj : j < F.size
  · rw [List.getElem?_take_of_lt hj, Array.getElem?_toList]
    simp [putCells, hj, show j < cur.size by omega]
  · rw [List.getElem?_take_eq_none (by omega), List.getElem?_eq_none (by simp; omega)]
theorem flat_list (ts : List Dg) : (flatK encD 32 ts.toArray).toList = dgrows (ts.map (·.1)) := by
  have hds : ∀ d ∈ ts.map (·.1), d.length = 32 := fun d hd => by obtain ⟨x, _, rfl⟩ := List.mem_map.1 hd; exact x.2
  apply List.ext_getElem?
  intro t
  by_cases ht : t < ts.length * 32
  · have hs : t < (flatK encD 32 ts.toArray).size := by simpa using ht
    rw [flat_at ts t ht, Array.getElem?_toList, Array.getElem?_eq_getElem hs, getElem!_pos _ t hs]
  · rw [List.getElem?_eq_none (by simp; omega), List.getElem?_eq_none (by rw [dgrows_length hds, List.length_map]; omega)]
set_option maxRecDepth 100000 in
set_option maxHeartbeats 2000000 in
theorem sortedFuncD (n : Nat) (hn : 3 ≤ n) (g : Nat) (lb : Array Value) (eg : ∀ args w, (callFunc g args).run Try.prog w = .ok (.enter g args) w) (S Sp : List Dg → Prop) (N : Nat) (hNb : N * 32 ≤ 140737488355328) (hSN : ∀ ss, S ss → ss.length ≤ N) (w : World)
    (hseq : SeqStopsK Fence.wide (n - 1 - 1 - 1) Try.prog g lb (fun x : Dg => #[encV x]) KeepsWalks S Sp N w) :
    CallsIn Fence.wide n Try.prog 30 #[.func (.func g) #[] lb, .func (.func 32) #[] #[]] w fun e w' => ∃ (A : Option Addr) (c : Nat) (ss : List Dg), e = .returned (.slice A ss.length c) ∧ S ss ∧ DsL (w.heap.size + 1) w' A ss.length c ((sortD' ss).map (·.1)) ∧ Below w.heap.size w w' := by
  have h1 : 1 ≤ n := by omega
  have hf1 : Fence.wide.fn 41 := trivial
  have hf2 : Fence.wide.fn 42 := trivial
  refine callsIn_of_wp Try.func30 rfl trivial ?_ rfl
  simp only [Try.ntmps30, List.size_toArray, List.length_cons, List.length_nil, Nat.reduceAdd, Nat.reduceSub, Array.replicate_succ, Array.replicate_zero, List.push_toArray, List.append_toArray, List.nil_append, List.cons_append]
  gi_wp2_with (gi_at_call 41; refine (collectD (n - 1) (by omega) g lb eg S Sp N hNb _ hseq).mono ?_; rintro e W ⟨A, c, ss, rfl, hS, hrow, hb⟩)
  have hlen : (sortD' ss).length = ss.length := List.length_mergeSort ss
  rcases hrow.own.2 with ⟨h0, hz⟩ | ⟨gb, cap, cur, h0, hbase, hgb, r1, r2, r3, r4⟩
  · have hss : ss = [] := List.eq_nil_of_length_eq_zero hz
    have h0' : A = none ∧ c = 0 := by simp only [Value.slice.injEq] at h0; exact ⟨h0.1, h0.2.2⟩
    obtain ⟨rfl, rfl⟩ := h0'
    have cN := fun W' => (callsIn_wide (n := n - 1)).2 (AnyF.slices_SortFunc_none sortD none 0 (.func (.func 32) #[] #[]) W')
    change ∀ W', CallsIn _ _ _ 42 _ _ _ at cN
    subst hss
    clear h0 hz hlen
    gi_wp2_with (gi_at_call 42; refine (cN _).mono ?_; rintro e w' ⟨rfl, rfl⟩)
    go_ret
    exact ⟨none, 0, [], rfl, hS, by simpa [sortD'] using hrow, hb⟩
  · cases h0
    have hH : HoldsK encD 32 W gb 0 ss.toArray := holds_dg hgb r4
    have hgl : gb < W.heap.size := (Array.getElem?_eq_some_iff.1 hgb).1
    have hsz : ss.toArray.size < 4611686018427387904 := by have := hSN ss hS; simp; omega
    have cS := (callsIn_wide (n := n - 1)).2 (AnyQ.slices_SortFunc_total sortD 32 Try.isAgg30 Try.sizeOf30 encD encD_len encD_one cmpD swoD 32 #[] gb 0 c ss.toArray W (enters_of Try.func32 (by kernel_rfl) rfl) (cmpLaysD _ _ _ _) hH hgl hsz totD)
    change CallsIn _ _ _ 42 _ _ _ at cS
    rw [List.size_toArray] at cS
    have hfin : ∀ k os, DsL (w.heap.size + 1) (sortWorldK encD 32 W gb 0 k (sortD' ss).toArray os) (some ⟨gb, 0, none⟩) ss.length c ((sortD' ss).map (·.1)) ∧ Below w.heap.size w (sortWorldK encD 32 W gb 0 k (sortD' ss).toArray os) := fun k os => by
      have hfs : (flatK encD 32 (sortD' ss).toArray).size = ss.length * 32 := by simp [hlen]
      refine ⟨⟨⟨?_, .inr ⟨gb, c, _, rfl, hbase, heap_sortedD _ hgb, r1, r2, by simp [putCells, r3], ?_⟩⟩, by rw [List.length_map, hlen], fun d hd => by obtain ⟨x, _, rfl⟩ := List.mem_map.1 hd; exact x.2⟩, ?_⟩
      · rw [dgrows_length (fun d hd => by obtain ⟨x, _, rfl⟩ := List.mem_map.1 hd; exact x.2), List.length_map, hlen]
      · rw [← hfs, take_putCellsD _ _ (by rw [hfs, r3]; exact Nat.mul_le_mul_right 32 r1), flat_list]
      · exact hb.grown (grownBy_sortedD _) hb.size (fun j hj => by cases hj; omega)
    replace hfin := Lib.hid hfin
    clear hH r1 r2 r3 r4 hrow hgb
    gi_wp2_with (gi_at_call 42; refine cS.mono ?_; rintro e w' ⟨rfl, nn, os, rfl⟩)
    go_ret
    exact ⟨_, c, ss, rfl, hS, hfin.out nn os⟩
/-- nodedb's List -/
theorem db_List (S b : Nat) (most : Int) (m : Assoc) (w : World) (h : StoreIs w S b most m) (hlim : m.length * 32 ≤ 140737488355328) :
    Calls Try.prog 19 #[.pointer (some ⟨S, 0, none⟩)] w fun e w' => ∃ A n c ds, e = .returned (.slice A n c) ∧ ds.Pairwise (· < ·) ∧ ds.Perm (m.map (·.1)) ∧ DsIs w' w'.heap.size ds A n c ∧ Below w.heap.size w w' := by
  have g1 : w.cell? ⟨S, 1, none⟩ = some (.map (some b)) := h.cells.cell 1
  have hm := h.map
  have hone : (m.map (·.1)).Nodup := List.pairwise_map.2 hm.one
  have hcK := fun w' => callsIn_wide.1 (keysD_call 6 (some b) w')
  have hcS := Lib.hid (callsIn_wide.1 (sortedFuncD 6 (by omega) 43 #[.pointer (some ⟨w.heap.size, 0, none⟩)] (enters_of Try.func43 (by kernel_rfl) rfl) _ _ m.length hlim (fun ss hss => by have := hss.length_eq; simp at this; omega) _ (keysD_stops 3 w.heap.size b m (w.alloc (.cells #[.map (some b)] 75)) (by simp) (by simp) (hm.alloc _))))
  clear h hm hlim
  go_enter Try.func19, Try.ntmps19
  go_wp2_with fail
  refine (hcK _).mono ?_
  rintro e w1 ⟨rfl, rfl⟩
  go_wp2_with fail
  refine hcS.out.mono ?_
  rintro e w2 ⟨A, c, ss, rfl, hperm, hrow, hb⟩
  clear hcS hcK
  replace hone := Lib.hid hone
  replace hperm := Lib.hid hperm
  replace hrow := Lib.hid hrow
  go_wp2_with fail
  go_ret
  have hn : (ss.map (·.1)).Nodup := hperm.out.nodup_iff.2 hone.out
  exact ⟨A, _, c, _, rfl, sortD_up ss hn, (sortD_perm ss).trans hperm.out, hrow.out.is_, ((Below.refl w.heap.size w).alloc (Nat.le_refl _) _).trans (hb.mono (by simp))⟩
end Go.Proofs.Ytioanppnkhiokaa

/-
  pergolaref06.List.
-/
namespace Go.Proofs.Ytioanppnkhiokaa
open Go.RowKit

/-- the search for the least one, begun -/
def Bst (L : List One) (outs : List (List UInt8)) (j : Nat) (b : Int) : Prop :=
  (b = -1 ∧ ∀ q (hq : q < L.length), q < j → L[q].d ∈ outs) ∨ ∃ k, ∃ hk : k < L.length, b = (k : Int) ∧ L[k].d ∉ outs ∧ ∀ q (hq : q < L.length), q < j → L[q].d ∉ outs → ¬ L[q].d < L[k].d
section
variable {L : List One} {outs : List (List UInt8)} {j : Nat} {b : Int}
theorem Bst.start (L : List One) (outs : List (List UInt8)) : Bst L outs 0 (-1) := .inl ⟨rfl, fun _ _ h => absurd h (Nat.not_lt_zero _)⟩
theorem Bst.not_ (h : Bst L outs j b) (hj : j < L.length) (hm : L[j].d ∈ outs) : Bst L outs (j + 1) b := by
  rcases h with ⟨rfl, h⟩ | ⟨k, hk, rfl, h1, h2⟩
  · refine .inl ⟨rfl, fun q hq hqj => ?_⟩
    rcases Nat.lt_or_ge q j with hl | hl
    · exact h q hq hl
    · obtain rfl : q = j := by omega
      exact hm
  · refine .inr ⟨k, hk, rfl, h1, fun q hq hqj hn => ?_⟩
    rcases Nat.lt_or_ge q j with hl | hl
    · exact h2 q hq hl hn
    · obtain rfl : q = j := by omega
      exact absurd hm hn
theorem Bst.first (h : Bst L outs j (-1)) (hj : j < L.length) (hm : L[j].d ∉ outs) : Bst L outs (j + 1) (j : Int) := by
  rcases h with ⟨_, h⟩ | ⟨k, hk, h0, _, _⟩
  · refine .inr ⟨j, hj, rfl, hm, fun q hq hqj hn => ?_⟩
    rcases Nat.lt_or_ge q j with hl | hl
    · exact absurd (h q hq hl) hn
    · obtain rfl : q = j := by omega
      exact List.lt_irrefl _
  · omega
theorem Bst.less {k : Nat} (h : Bst L outs j (k : Int)) (hk : k < L.length) (hj : j < L.length) (hm : L[j].d ∉ outs) (hl : L[j].d < L[k].d) : Bst L outs (j + 1) (j : Int) := by
  rcases h with ⟨h0, _⟩ | ⟨k', hk', h0, h1, h2⟩
  · omega
  · obtain rfl : k = k' := by omega
    refine .inr ⟨j, hj, rfl, hm, fun q hq hqj hn hlt => ?_⟩
    rcases Nat.lt_or_ge q j with hl' | hl'
    · exact h2 q hq hl' hn (List.lt_trans hlt hl)
    · obtain rfl : q = j := by omega
      exact List.lt_irrefl _ hlt
theorem Bst.more {k : Nat} (h : Bst L outs j (k : Int)) (hk : k < L.length) (hj : j < L.length) (hl : ¬ L[j].d < L[k].d) : Bst L outs (j + 1) (k : Int) := by
  rcases h with ⟨h0, _⟩ | ⟨k', hk', h0, h1, h2⟩
  · omega
  · obtain rfl : k = k' := by omega
    refine .inr ⟨k, hk, rfl, h1, fun q hq hqj hn => ?_⟩
    rcases Nat.lt_or_ge q j with hl' | hl'
    · exact h2 q hq hl' hn
    · obtain rfl : q = j := by omega
      exact hl
end
def sliceLen : Value → Nat
  | .slice _ n _ => n
  | _ => 0
/-- in the midst of List -/
structure LiI (w : World) (most : Int) (L : List One) (A : Option Addr) (n c : Nat) (outs : List (List UInt8)) (A' : Option Addr) (m' c' : Nat) (W : World) : Prop where
  s : Blk W w.heap.size 45 #[.int .i64 most, .slice A n c]
  rf : RefIs W w.heap.size L A n c
  o : DsL (w.heap.size + 1) W A' m' c' outs
  bel : Below w.heap.size w W
section
variable {w W W' : World} {most : Int} {L : List One} {A A' : Option Addr} {n c m' c' : Nat} {outs : List (List UInt8)}
theorem LiI.step (h : LiI w most L A n c outs A' m' c' W) (hb : Below W.heap.size W W') : LiI w most L A n c outs A' m' c' W' :=
  ⟨h.s.below hb h.s.lt, h.rf.below (hb.mono h.bel.size), h.o.below hb, h.bel.trans (hb.mono h.bel.size)⟩
theorem LiI.drew (h : LiI w most L A n c outs A' m' c' W) : LiI w most L A n c outs A' m' c' W.drew := h.step (Below.refl _ _).drew
theorem LiI.next (h : LiI w most L A n c outs A' m' c' W) (o : Obj) {w5 : World} {outs2 : List (List UInt8)} {A5 : Option Addr} {m5 c5 : Nat} (hL : DsL (w.heap.size + 1) w5 A5 m5 c5 outs2) (hg : (W.alloc o).grownBy w5 (Value.slice A' m' c').ownBlock) :
    LiI w most L A n c outs2 A5 m5 c5 w5 := by
  have hlt := h.s.lt
  have hb : Below (w.heap.size + 1) W w5 := ((Below.refl _ W).alloc (by omega) o).trans
    ⟨hg.os, hg.tape, hg.output, hg.size, fun q hq => hg.block q (by simp; omega) (fun e => by have := (h.o.own.lt q e.symm).1; omega)⟩
  exact ⟨h.s.below hb (Nat.lt_succ_self _), h.rf.below (hb.mono (Nat.le_succ _)), hL, h.bel.trans (hb.mono (Nat.le_succ _))⟩
end
/-- what List hands back -/
def DigsQ (ds : List (List UInt8)) (w : World) (e : Ending) (w' : World) : Prop := ∃ A n c, e = .returned (.slice A n c) ∧ DsIs w' w'.heap.size ds A n c ∧ Below w.heap.size w w'
set_option maxRecDepth 100000 in
set_option maxHeartbeats 4000000 in
theorem ref_List (most : Int) (L : List One) (A : Option Addr) (n c : Nat) (w : World) (h : RefIs w w.heap.size L A n c) (hL : OkL L) (hlim : n * 56 ≤ 140737488355328) :
    Calls Try.prog 22 #[.agg #[.int .i64 most, .slice A n c]] w (DigsQ (srt L) w) := by
  have hn63 : (n : Int) ≤ 9223372036854775807 := by omega
  have hlen := Lib.hid h.len
  have hds := Lib.hid h.ds
  have hnd := Lib.hid (show (L.map (·.d)).Nodup from List.pairwise_map.2 hL.one)
  clear hL
  replace hlim := Lib.hid hlim
  have hst := Lib.hid (show LiI w most L A n c [] none 0 0 (w.alloc (.cells #[.int .i64 most, .slice A n c] 45)) from
    have hb := (Below.refl w.heap.size w).alloc (Nat.le_refl _) (.cells #[.int .i64 most, .slice A n c] 45)
    ⟨Blk.new _ _ _, h.below hb, DsL.start, hb⟩)
  clear h
  go_enter Try.func22, Try.ntmps22
  go_wp2_with fail
  refine code_at (LiI w most L A n c [] none 0 0) hst.out ?_
  clear hst
  intro w1 hi
  go_loopw [3] (fun o wr => ∃ (outs : List (List UInt8)) (A' : Option Addr) (m' c' : Nat), o = .slice A' m' c' ∧ LiI w most L A n c outs A' m' c' wr ∧ Sel (L.map (·.d)) outs ∧ outs.length ≤ n) (fun o _ => n - sliceLen o)
  case atStart => exact ⟨[], none, 0, 0, rfl, hi, Sel.start _, Nat.zero_le _⟩
  case round =>
    clear hi
    obtain ⟨outs, A', m', c', rfl, hi, hsel, hon⟩ := hrel
    have hm := Lib.hid hi.o.len
    have c1 : wr.cell? ⟨w.heap.size, 1, none⟩ = some (.slice A n c) := hi.s.cell 1
    by_cases hlt : m' < n
    · have hlt' : (m' : Int) < n := by omega
      replace hi := Lib.hid hi
      replace hsel := Lib.hid hsel
      go_wp2_with fail
      go_loopw [4, 5] (fun bv iv wx => ∃ (j : Nat) (b : Int), j ≤ n ∧ bv = .int .i64 b ∧ iv = .int .i64 j ∧ LiI w most L A n c outs A' m' c' wx ∧ Bst L outs j b) (fun _ iv _ => n - (intOf iv).toNat)
      case atStart => exact ⟨0, -1, Nat.zero_le _, rfl, rfl, hi.out, Bst.start L outs⟩
      case round =>
        clear hi c1
        obtain ⟨j, b, hj, rfl, rfl, hi, hb⟩ := hrel
        have c1 : wr.cell? ⟨w.heap.size, 1, none⟩ = some (.slice A n c) := hi.s.cell 1
        by_cases hjn : j < n
        · have hjn' : (j : Int) < n := by omega
          have hjl : j < L.length := by have := hlen.out; omega
          have hdj := hds.out _ (List.getElem_mem hjl)
          obtain ⟨g, o, rfl, hg, hr⟩ := hi.rf.row j hjl
          clear hr
          replace hb := Lib.hid hb
          replace hi := Lib.hid hi
          by_cases he : outs = []
          · subst he
            have hm0 : m' = 0 := hm.out
            have hz : ((m' : Int) == 0) = true := by simp; exact hm0
            replace hm0 := Lib.hid hm0
            go_wp2_with fail
            refine wp_region_held_drew (S := (LiI w most L (some ⟨g, o, none⟩) n c [] A' m' c')) (by kernel_rfl) (by exact hi.out.drew) (fun hS => ?_)
            clear hi c1
            (refine hTake (i := 0) (v := ?v1) rfl (by kernel_rfl) (by kernel_rfl) (by kernel_rfl) (fun _ _ _ h => h) (Or.inl ⟨by rfl, ?y1⟩) hS ?r1; (case y1 => (intro W hW; (go_simp); (try with_reducible rfl); done)); try simp only [Act.put, List.setIfInBounds_toArray, List.set_cons_zero, List.set_cons_succ])
            (refine hTake (i := 1) (v := ?v2) rfl (by kernel_rfl) (by kernel_rfl) (by kernel_rfl) (fun _ _ _ h => h) (Or.inl ⟨by rfl, ?y2⟩) hS ?r2; (case y2 => (intro W hW; (go_simp); (try with_reducible rfl); done)); try simp only [Act.put, List.setIfInBounds_toArray, List.set_cons_zero, List.set_cons_succ])
            (refine hTake (i := 2) (v := ?v3) rfl (by kernel_rfl) (by kernel_rfl) (by kernel_rfl) (fun _ _ _ h => h) (Or.inl ⟨by rfl, ?y3⟩) hS ?r3; (case y3 => (intro W hW; (go_simp); (try with_reducible rfl); done)); try simp only [Act.put, List.setIfInBounds_toArray, List.set_cons_zero, List.set_cons_succ])
            (refine hTake (i := 3) (v := ?v4) rfl (by kernel_rfl) (by kernel_rfl) (by kernel_rfl) (fun _ _ _ h => h) (Or.inl ⟨by rfl, ?y4⟩) hS ?r4; (case y4 => (intro W hW; (go_simp); (try with_reducible rfl); done)); try simp only [Act.put, List.setIfInBounds_toArray, List.set_cons_zero, List.set_cons_succ])
            (refine hTake (i := 4) (v := undef) rfl (by kernel_rfl) (by kernel_rfl) (by kernel_rfl) (fun _ _ _ h => h) (Or.inr ⟨by rfl, rfl⟩) hS ?_; try simp only [Act.put, List.setIfInBounds_toArray, List.set_cons_zero, List.set_cons_succ])
            (refine hTake (i := 5) (v := undef) rfl (by kernel_rfl) (by kernel_rfl) (by kernel_rfl) (fun _ _ _ h => h) (Or.inr ⟨by rfl, rfl⟩) hS ?_; try simp only [Act.put, List.setIfInBounds_toArray, List.set_cons_zero, List.set_cons_succ])
            (refine hTake (i := 6) (v := undef) rfl (by kernel_rfl) (by kernel_rfl) (by kernel_rfl) (fun _ _ _ h => h) (Or.inr ⟨by rfl, rfl⟩) hS ?_; try simp only [Act.put, List.setIfInBounds_toArray, List.set_cons_zero, List.set_cons_succ])
            (refine hTake (i := 7) (v := undef) rfl (by kernel_rfl) (by kernel_rfl) (by kernel_rfl) (fun _ _ _ h => h) (Or.inr ⟨by rfl, rfl⟩) hS ?_; try simp only [Act.put, List.setIfInBounds_toArray, List.set_cons_zero, List.set_cons_succ])
            (refine hTake (i := 8) (v := undef) rfl (by kernel_rfl) (by kernel_rfl) (by kernel_rfl) (fun _ _ _ h => h) (Or.inr ⟨by rfl, rfl⟩) hS ?_; try simp only [Act.put, List.setIfInBounds_toArray, List.set_cons_zero, List.set_cons_succ])
            (refine hTake (i := 9) (v := undef) rfl (by kernel_rfl) (by kernel_rfl) (by kernel_rfl) (fun _ _ _ h => h) (Or.inr ⟨by rfl, rfl⟩) hS ?_; try simp only [Act.put, List.setIfInBounds_toArray, List.set_cons_zero, List.set_cons_succ])
            (refine hTake (i := 10) (v := undef) rfl (by kernel_rfl) (by kernel_rfl) (by kernel_rfl) (fun _ _ _ h => h) (Or.inr ⟨by rfl, rfl⟩) hS ?_; try simp only [Act.put, List.setIfInBounds_toArray, List.set_cons_zero, List.set_cons_succ])
            (refine hTake (i := 11) (v := undef) rfl (by kernel_rfl) (by kernel_rfl) (by kernel_rfl) (fun _ _ _ h => h) (Or.inr ⟨by rfl, rfl⟩) hS ?_; try simp only [Act.put, List.setIfInBounds_toArray, List.set_cons_zero, List.set_cons_succ])
            (refine hTake (i := 12) (v := undef) rfl (by kernel_rfl) (by kernel_rfl) (by kernel_rfl) (fun _ _ _ h => h) (Or.inr ⟨by rfl, rfl⟩) hS ?_; try simp only [Act.put, List.setIfInBounds_toArray, List.set_cons_zero, List.set_cons_succ])
            (refine hTake (i := 13) (v := undef) rfl (by kernel_rfl) (by kernel_rfl) (by kernel_rfl) (fun _ _ _ h => h) (Or.inr ⟨by rfl, rfl⟩) hS ?_; try simp only [Act.put, List.setIfInBounds_toArray, List.set_cons_zero, List.set_cons_succ])
            (refine hTake (i := 14) (v := undef) rfl (by kernel_rfl) (by kernel_rfl) (by kernel_rfl) (fun _ _ _ h => h) (Or.inr ⟨by rfl, rfl⟩) hS ?_; try simp only [Act.put, List.setIfInBounds_toArray, List.set_cons_zero, List.set_cons_succ])
            (refine hTake (i := 15) (v := undef) rfl (by kernel_rfl) (by kernel_rfl) (by kernel_rfl) (fun _ _ _ h => h) (Or.inr ⟨by rfl, rfl⟩) hS ?_; try simp only [Act.put, List.setIfInBounds_toArray, List.set_cons_zero, List.set_cons_succ])
            (refine hTake (i := 16) (v := undef) rfl (by kernel_rfl) (by kernel_rfl) (by kernel_rfl) (fun _ _ _ h => h) (Or.inr ⟨by rfl, rfl⟩) hS ?_; try simp only [Act.put, List.setIfInBounds_toArray, List.set_cons_zero, List.set_cons_succ])
            (refine hTake (i := 17) (v := ?v5) rfl (by kernel_rfl) (by kernel_rfl) (by kernel_rfl) (fun _ _ _ h => h) (Or.inl ⟨by rfl, ?y5⟩) hS ?r5; (case y5 => (intro W hW; (go_simp); (try with_reducible rfl); done)); try simp only [Act.put, List.setIfInBounds_toArray, List.set_cons_zero, List.set_cons_succ])
            (refine hTake (i := 18) (v := ?v6) rfl (by kernel_rfl) (by kernel_rfl) (by kernel_rfl) (fun _ _ _ h => h) (Or.inl ⟨by rfl, ?y6⟩) hS ?r6; (case y6 => (intro W hW; (go_simp); (try with_reducible rfl); done)); try simp only [Act.put, List.setIfInBounds_toArray, List.set_cons_zero, List.set_cons_succ])
            refine wpAnyH_done (by kernel_rfl) ?_ _
            have hi := Lib.hid hS
            clear hS
            have hmem : L[j].d ∉ ([] : List (List UInt8)) := by simp
            replace hmem := Lib.hid hmem
            rcases (show b = -1 ∨ ∃ k, ∃ hk : k < L.length, b = (k : Int) from hb.out.elim (fun h => .inl h.1) fun ⟨k, hk, h, _⟩ => .inr ⟨k, hk, h⟩) with rfl | ⟨k, hk, rfl⟩
            · go_wp2_with fail
              (refine wp_region_held_drew (S := (LiI w most L (some ⟨g, o, none⟩) n c [] A' m' c')) (by kernel_rfl) (by exact hi.out.drew) (fun hS => ?_); clear hi; (refine hTake (i := 0) (v := ?v7) rfl (by kernel_rfl) (by kernel_rfl) (by kernel_rfl) (fun _ _ _ h => h) (Or.inl ⟨by rfl, ?y7⟩) hS ?r7; (case y7 => (intro W hW; (go_simp); (try with_reducible rfl); done)); try simp only [Act.put, List.setIfInBounds_toArray, List.set_cons_zero, List.set_cons_succ]); (refine hTake (i := 1) (v := ?v8) rfl (by kernel_rfl) (by kernel_rfl) (by kernel_rfl) (fun _ _ _ h => h) (Or.inl ⟨by rfl, ?y8⟩) hS ?r8; (case y8 => (intro W hW; (go_simp); (try with_reducible rfl); done)); try simp only [Act.put, List.setIfInBounds_toArray, List.set_cons_zero, List.set_cons_succ]); (refine hTake (i := 2) (v := ?v9) rfl (by kernel_rfl) (by kernel_rfl) (by kernel_rfl) (fun _ _ _ h => h) (Or.inl ⟨by rfl, ?y9⟩) hS ?r9; (case y9 => (intro W hW; (go_simp); (try with_reducible rfl); done)); try simp only [Act.put, List.setIfInBounds_toArray, List.set_cons_zero, List.set_cons_succ]); (refine hTake (i := 3) (v := ?v10) rfl (by kernel_rfl) (by kernel_rfl) (by kernel_rfl) (fun _ _ _ h => h) (Or.inl ⟨by rfl, ?y10⟩) hS ?r10; (case y10 => (intro W hW; (go_simp); (try with_reducible rfl); done)); try simp only [Act.put, List.setIfInBounds_toArray, List.set_cons_zero, List.set_cons_succ]); (refine hTake (i := 4) (v := ?v11) rfl (by kernel_rfl) (by kernel_rfl) (by kernel_rfl) (fun _ _ _ h => h) (Or.inl ⟨by rfl, ?y11⟩) hS ?r11; (case y11 => (intro W hW; (go_simp); (try with_reducible rfl); done)); try simp only [Act.put, List.setIfInBounds_toArray, List.set_cons_zero, List.set_cons_succ]); (refine hTake (i := 5) (v := undef) rfl (by kernel_rfl) (by kernel_rfl) (by kernel_rfl) (fun _ _ _ h => h) (Or.inr ⟨by rfl, rfl⟩) hS ?_; try simp only [Act.put, List.setIfInBounds_toArray, List.set_cons_zero, List.set_cons_succ]); (refine hTake (i := 6) (v := undef) rfl (by kernel_rfl) (by kernel_rfl) (by kernel_rfl) (fun _ _ _ h => h) (Or.inr ⟨by rfl, rfl⟩) hS ?_; try simp only [Act.put, List.setIfInBounds_toArray, List.set_cons_zero, List.set_cons_succ]); (refine hTake (i := 7) (v := undef) rfl (by kernel_rfl) (by kernel_rfl) (by kernel_rfl) (fun _ _ _ h => h) (Or.inr ⟨by rfl, rfl⟩) hS ?_; try simp only [Act.put, List.setIfInBounds_toArray, List.set_cons_zero, List.set_cons_succ]); (refine hTake (i := 8) (v := undef) rfl (by kernel_rfl) (by kernel_rfl) (by kernel_rfl) (fun _ _ _ h => h) (Or.inr ⟨by rfl, rfl⟩) hS ?_; try simp only [Act.put, List.setIfInBounds_toArray, List.set_cons_zero, List.set_cons_succ]); (refine hTake (i := 9) (v := undef) rfl (by kernel_rfl) (by kernel_rfl) (by kernel_rfl) (fun _ _ _ h => h) (Or.inr ⟨by rfl, rfl⟩) hS ?_; try simp only [Act.put, List.setIfInBounds_toArray, List.set_cons_zero, List.set_cons_succ]); (refine hTake (i := 10) (v := undef) rfl (by kernel_rfl) (by kernel_rfl) (by kernel_rfl) (fun _ _ _ h => h) (Or.inr ⟨by rfl, rfl⟩) hS ?_; try simp only [Act.put, List.setIfInBounds_toArray, List.set_cons_zero, List.set_cons_succ]); (refine hTake (i := 11) (v := undef) rfl (by kernel_rfl) (by kernel_rfl) (by kernel_rfl) (fun _ _ _ h => h) (Or.inr ⟨by rfl, rfl⟩) hS ?_; try simp only [Act.put, List.setIfInBounds_toArray, List.set_cons_zero, List.set_cons_succ]); (refine hTake (i := 12) (v := undef) rfl (by kernel_rfl) (by kernel_rfl) (by kernel_rfl) (fun _ _ _ h => h) (Or.inr ⟨by rfl, rfl⟩) hS ?_; try simp only [Act.put, List.setIfInBounds_toArray, List.set_cons_zero, List.set_cons_succ]); (refine hTake (i := 13) (v := undef) rfl (by kernel_rfl) (by kernel_rfl) (by kernel_rfl) (fun _ _ _ h => h) (Or.inr ⟨by rfl, rfl⟩) hS ?_; try simp only [Act.put, List.setIfInBounds_toArray, List.set_cons_zero, List.set_cons_succ]); (refine hTake (i := 14) (v := undef) rfl (by kernel_rfl) (by kernel_rfl) (by kernel_rfl) (fun _ _ _ h => h) (Or.inr ⟨by rfl, rfl⟩) hS ?_; try simp only [Act.put, List.setIfInBounds_toArray, List.set_cons_zero, List.set_cons_succ]); (refine hTake (i := 15) (v := undef) rfl (by kernel_rfl) (by kernel_rfl) (by kernel_rfl) (fun _ _ _ h => h) (Or.inr ⟨by rfl, rfl⟩) hS ?_; try simp only [Act.put, List.setIfInBounds_toArray, List.set_cons_zero, List.set_cons_succ]); (refine hTake (i := 16) (v := undef) rfl (by kernel_rfl) (by kernel_rfl) (by kernel_rfl) (fun _ _ _ h => h) (Or.inr ⟨by rfl, rfl⟩) hS ?_; try simp only [Act.put, List.setIfInBounds_toArray, List.set_cons_zero, List.set_cons_succ]); (refine hTake (i := 17) (v := undef) rfl (by kernel_rfl) (by kernel_rfl) (by kernel_rfl) (fun _ _ _ h => h) (Or.inr ⟨by rfl, rfl⟩) hS ?_; try simp only [Act.put, List.setIfInBounds_toArray, List.set_cons_zero, List.set_cons_succ]); (refine hTake (i := 18) (v := ?v12) rfl (by kernel_rfl) (by kernel_rfl) (by kernel_rfl) (fun _ _ _ h => h) (Or.inl ⟨by rfl, ?y12⟩) hS ?r12; (case y12 => (intro W hW; (go_simp); (try with_reducible rfl); done)); try simp only [Act.put, List.setIfInBounds_toArray, List.set_cons_zero, List.set_cons_succ]); (refine hTake (i := 19) (v := ?v13) rfl (by kernel_rfl) (by kernel_rfl) (by kernel_rfl) (fun _ _ _ h => h) (Or.inl ⟨by rfl, ?y13⟩) hS ?r13; (case y13 => (intro W hW; (go_simp); (try with_reducible rfl); done)); try simp only [Act.put, List.setIfInBounds_toArray, List.set_cons_zero, List.set_cons_succ]); refine wpAnyH_done (by kernel_rfl) ?_ _)
              (have hi := Lib.hid hS; clear hS; go_wp2_with fail; first | exact ⟨⟨j + 1, _, by omega, rfl, by go_num, hi.out, (hb.out.first hjl hmem.out)⟩, by simp [intOf]; omega⟩ | (go_roundw; (case rel => exact ⟨j + 1, _, by omega, rfl, by go_num, hi.out, (hb.out.first hjl hmem.out)⟩); (case measure => (simp [intOf]; omega))))
            · have hdk := hds.out _ (List.getElem_mem hk)
              have hkn : (k : Int) < n := by have := hlen.out; omega
              by_cases hl : L[j].d < L[k].d
              · have hld := decide_eq_true hl
                replace hl := Lib.hid hl
                go_wp2_with fail
                (refine wp_region_held_drew (S := (LiI w most L (some ⟨g, o, none⟩) n c [] A' m' c')) (by kernel_rfl) (by exact hi.out.drew) (fun hS => ?_); clear hi; (refine hTake (i := 0) (v := ?v14) rfl (by kernel_rfl) (by kernel_rfl) (by kernel_rfl) (fun _ _ _ h => h) (Or.inl ⟨by rfl, ?y14⟩) hS ?r14; (case y14 => (intro W hW; (go_simp); (try with_reducible rfl); done)); try simp only [Act.put, List.setIfInBounds_toArray, List.set_cons_zero, List.set_cons_succ]); (refine hTake (i := 1) (v := ?v15) rfl (by kernel_rfl) (by kernel_rfl) (by kernel_rfl) (fun _ _ _ h => h) (Or.inl ⟨by rfl, ?y15⟩) hS ?r15; (case y15 => (intro W hW; (go_simp); (try with_reducible rfl); done)); try simp only [Act.put, List.setIfInBounds_toArray, List.set_cons_zero, List.set_cons_succ]); (refine hTake (i := 2) (v := ?v16) rfl (by kernel_rfl) (by kernel_rfl) (by kernel_rfl) (fun _ _ _ h => h) (Or.inl ⟨by rfl, ?y16⟩) hS ?r16; (case y16 => (intro W hW; (go_simp); (try with_reducible rfl); done)); try simp only [Act.put, List.setIfInBounds_toArray, List.set_cons_zero, List.set_cons_succ]); (refine hTake (i := 3) (v := ?v17) rfl (by kernel_rfl) (by kernel_rfl) (by kernel_rfl) (fun _ _ _ h => h) (Or.inl ⟨by rfl, ?y17⟩) hS ?r17; (case y17 => (intro W hW; (go_simp); (try with_reducible rfl); done)); try simp only [Act.put, List.setIfInBounds_toArray, List.set_cons_zero, List.set_cons_succ]); (refine hTake (i := 4) (v := ?v18) rfl (by kernel_rfl) (by kernel_rfl) (by kernel_rfl) (fun _ _ _ h => h) (Or.inl ⟨by rfl, ?y18⟩) hS ?r18; (case y18 => (intro W hW; (go_simp); (try with_reducible rfl); done)); try simp only [Act.put, List.setIfInBounds_toArray, List.set_cons_zero, List.set_cons_succ]); (refine hTake (i := 5) (v := ?v19) rfl (by kernel_rfl) (by kernel_rfl) (by kernel_rfl) (fun _ _ _ h => h) (Or.inl ⟨by rfl, ?y19⟩) hS ?r19; (case y19 => (intro W hW; (go_simp); (try with_reducible rfl); done)); try simp only [Act.put, List.setIfInBounds_toArray, List.set_cons_zero, List.set_cons_succ]); (refine hTake (i := 6) (v := ?v20) rfl (by kernel_rfl) (by kernel_rfl) (by kernel_rfl) (fun _ _ _ h => h) (Or.inl ⟨by rfl, ?y20⟩) hS ?r20; (case y20 => (intro W hW; ((have g1 := hW.s.cell 1; simp at g1; go_simp)); (try with_reducible rfl); done)); try simp only [Act.put, List.setIfInBounds_toArray, List.set_cons_zero, List.set_cons_succ]); (refine hTake (i := 7) (v := ?v21) rfl (by kernel_rfl) (by kernel_rfl) (by kernel_rfl) (fun _ _ _ h => h) (Or.inl ⟨by rfl, ?y21⟩) hS ?r21; (case y21 => (intro W hW; (go_simp); (try with_reducible rfl); done)); try simp only [Act.put, List.setIfInBounds_toArray, List.set_cons_zero, List.set_cons_succ]); (refine hTake (i := 8) (v := ?v22) rfl (by kernel_rfl) (by kernel_rfl) (by kernel_rfl) (fun _ _ _ h => h) (Or.inl ⟨by rfl, ?y22⟩) hS ?r22; (case y22 => (intro W hW; (go_simp); (try with_reducible rfl); done)); try simp only [Act.put, List.setIfInBounds_toArray, List.set_cons_zero, List.set_cons_succ]); (refine hTake (i := 9) (v := ?v23) rfl (by kernel_rfl) (by kernel_rfl) (by kernel_rfl) (fun _ _ _ h => h) (Or.inl ⟨by rfl, ?y23⟩) hS ?r23; (case y23 => (intro W hW; (go_simp); (try with_reducible rfl); done)); try simp only [Act.put, List.setIfInBounds_toArray, List.set_cons_zero, List.set_cons_succ]); (refine hTake (i := 10) rfl (by kernel_rfl) (by kernel_rfl) (by kernel_rfl) (fun _ _ _ h => h) (yieldsIf_load_mid (by rfl) _ _ rfl _ _ rfl (bv L[j].d) _ (fun W hW => (by obtain ⟨g', o', e, _, hr⟩ := hW.rf.row j hjl; cases e; exact oneRow_dig hr)) Try.underlying30 rfl (by rw [bv_length, hdj]; exact info_digest)) hS ?_; try simp only [Act.put, List.setIfInBounds_toArray, List.set_cons_zero, List.set_cons_succ]); (refine hTake (i := 11) (v := ?v24) rfl (by kernel_rfl) (by kernel_rfl) (by kernel_rfl) (fun _ _ _ h => h) (Or.inl ⟨by rfl, ?y24⟩) hS ?r24; (case y24 => (intro W hW; (go_simp); (try with_reducible rfl); done)); try simp only [Act.put, List.setIfInBounds_toArray, List.set_cons_zero, List.set_cons_succ]); (refine hTake (i := 12) (v := ?v25) rfl (by kernel_rfl) (by kernel_rfl) (by kernel_rfl) (fun _ _ _ h => h) (Or.inl ⟨by rfl, ?y25⟩) hS ?r25; (case y25 => (intro W hW; ((have g1 := hW.s.cell 1; simp at g1; go_simp)); (try with_reducible rfl); done)); try simp only [Act.put, List.setIfInBounds_toArray, List.set_cons_zero, List.set_cons_succ]); (refine hTake (i := 13) (v := ?v26) rfl (by kernel_rfl) (by kernel_rfl) (by kernel_rfl) (fun _ _ _ h => h) (Or.inl ⟨by rfl, ?y26⟩) hS ?r26; (case y26 => (intro W hW; (go_simp); (try with_reducible rfl); done)); try simp only [Act.put, List.setIfInBounds_toArray, List.set_cons_zero, List.set_cons_succ]); (refine hTake (i := 14) (v := ?v27) rfl (by kernel_rfl) (by kernel_rfl) (by kernel_rfl) (fun _ _ _ h => h) (Or.inl ⟨by rfl, ?y27⟩) hS ?r27; (case y27 => (intro W hW; (go_simp); (try with_reducible rfl); done)); try simp only [Act.put, List.setIfInBounds_toArray, List.set_cons_zero, List.set_cons_succ]); (refine hTake (i := 15) (v := ?v28) rfl (by kernel_rfl) (by kernel_rfl) (by kernel_rfl) (fun _ _ _ h => h) (Or.inl ⟨by rfl, ?y28⟩) hS ?r28; (case y28 => (intro W hW; (go_simp); (try with_reducible rfl); done)); try simp only [Act.put, List.setIfInBounds_toArray, List.set_cons_zero, List.set_cons_succ]); (refine hTake (i := 16) rfl (by kernel_rfl) (by kernel_rfl) (by kernel_rfl) (fun _ _ _ h => h) (yieldsIf_load_mid (by rfl) _ _ rfl _ _ rfl (bv L[k].d) _ (fun W hW => (by obtain ⟨g', o', e, _, hr⟩ := hW.rf.row k hk; cases e; exact oneRow_dig hr)) Try.underlying30 rfl (by rw [bv_length, hdk]; exact info_digest)) hS ?_; try simp only [Act.put, List.setIfInBounds_toArray, List.set_cons_zero, List.set_cons_succ]); (refine hOne (i := 17) rfl (by kernel_rfl) (fun K hK => ?_)); rw [if_pos (by rfl)]; go_simp; refine (ref_Less L[j].d L[k].d hdj hdk _).mono ?_; rintro e w2 ⟨rfl, hb2⟩; rw [hld]; have hS2 := Lib.hid (hS.step hb2); clear hb2 hS; go_wp2_with fail; (refine hK.out _ _ (by exact hS2.out) (fun hS => ?_); clear hK K; try simp only [Act.put, List.setIfInBounds_toArray, List.set_cons_zero, List.set_cons_succ]); clear hS2; (refine hTake (i := 18) (v := ?v29) rfl (by kernel_rfl) (by kernel_rfl) (by kernel_rfl) (fun _ _ _ h => h) (Or.inl ⟨by rfl, ?y29⟩) hS ?r29; (case y29 => (intro W hW; (go_simp); (try with_reducible rfl); done)); try simp only [Act.put, List.setIfInBounds_toArray, List.set_cons_zero, List.set_cons_succ]); (refine hTake (i := 19) (v := ?v30) rfl (by kernel_rfl) (by kernel_rfl) (by kernel_rfl) (fun _ _ _ h => h) (Or.inl ⟨by rfl, ?y30⟩) hS ?r30; (case y30 => (intro W hW; (go_simp); (try with_reducible rfl); done)); try simp only [Act.put, List.setIfInBounds_toArray, List.set_cons_zero, List.set_cons_succ]); refine wpAnyH_done (by kernel_rfl) ?_ _)
                (have hi := Lib.hid hS; clear hS; go_wp2_with fail; first | exact ⟨⟨j + 1, _, by omega, rfl, by go_num, hi.out, (hb.out.less hk hjl hmem.out hl.out)⟩, by simp [intOf]; omega⟩ | (go_roundw; (case rel => exact ⟨j + 1, _, by omega, rfl, by go_num, hi.out, (hb.out.less hk hjl hmem.out hl.out)⟩); (case measure => (simp [intOf]; omega))))
              · have hld := decide_eq_false hl
                replace hl := Lib.hid hl
                go_wp2_with fail
                (refine wp_region_held_drew (S := (LiI w most L (some ⟨g, o, none⟩) n c [] A' m' c')) (by kernel_rfl) (by exact hi.out.drew) (fun hS => ?_); clear hi; (refine hTake (i := 0) (v := ?v31) rfl (by kernel_rfl) (by kernel_rfl) (by kernel_rfl) (fun _ _ _ h => h) (Or.inl ⟨by rfl, ?y31⟩) hS ?r31; (case y31 => (intro W hW; (go_simp); (try with_reducible rfl); done)); try simp only [Act.put, List.setIfInBounds_toArray, List.set_cons_zero, List.set_cons_succ]); (refine hTake (i := 1) (v := ?v32) rfl (by kernel_rfl) (by kernel_rfl) (by kernel_rfl) (fun _ _ _ h => h) (Or.inl ⟨by rfl, ?y32⟩) hS ?r32; (case y32 => (intro W hW; (go_simp); (try with_reducible rfl); done)); try simp only [Act.put, List.setIfInBounds_toArray, List.set_cons_zero, List.set_cons_succ]); (refine hTake (i := 2) (v := ?v33) rfl (by kernel_rfl) (by kernel_rfl) (by kernel_rfl) (fun _ _ _ h => h) (Or.inl ⟨by rfl, ?y33⟩) hS ?r33; (case y33 => (intro W hW; (go_simp); (try with_reducible rfl); done)); try simp only [Act.put, List.setIfInBounds_toArray, List.set_cons_zero, List.set_cons_succ]); (refine hTake (i := 3) (v := ?v34) rfl (by kernel_rfl) (by kernel_rfl) (by kernel_rfl) (fun _ _ _ h => h) (Or.inl ⟨by rfl, ?y34⟩) hS ?r34; (case y34 => (intro W hW; (go_simp); (try with_reducible rfl); done)); try simp only [Act.put, List.setIfInBounds_toArray, List.set_cons_zero, List.set_cons_succ]); (refine hTake (i := 4) (v := ?v35) rfl (by kernel_rfl) (by kernel_rfl) (by kernel_rfl) (fun _ _ _ h => h) (Or.inl ⟨by rfl, ?y35⟩) hS ?r35; (case y35 => (intro W hW; (go_simp); (try with_reducible rfl); done)); try simp only [Act.put, List.setIfInBounds_toArray, List.set_cons_zero, List.set_cons_succ]); (refine hTake (i := 5) (v := ?v36) rfl (by kernel_rfl) (by kernel_rfl) (by kernel_rfl) (fun _ _ _ h => h) (Or.inl ⟨by rfl, ?y36⟩) hS ?r36; (case y36 => (intro W hW; (go_simp); (try with_reducible rfl); done)); try simp only [Act.put, List.setIfInBounds_toArray, List.set_cons_zero, List.set_cons_succ]); (refine hTake (i := 6) (v := ?v37) rfl (by kernel_rfl) (by kernel_rfl) (by kernel_rfl) (fun _ _ _ h => h) (Or.inl ⟨by rfl, ?y37⟩) hS ?r37; (case y37 => (intro W hW; ((have g1 := hW.s.cell 1; simp at g1; go_simp)); (try with_reducible rfl); done)); try simp only [Act.put, List.setIfInBounds_toArray, List.set_cons_zero, List.set_cons_succ]); (refine hTake (i := 7) (v := ?v38) rfl (by kernel_rfl) (by kernel_rfl) (by kernel_rfl) (fun _ _ _ h => h) (Or.inl ⟨by rfl, ?y38⟩) hS ?r38; (case y38 => (intro W hW; (go_simp); (try with_reducible rfl); done)); try simp only [Act.put, List.setIfInBounds_toArray, List.set_cons_zero, List.set_cons_succ]); (refine hTake (i := 8) (v := ?v39) rfl (by kernel_rfl) (by kernel_rfl) (by kernel_rfl) (fun _ _ _ h => h) (Or.inl ⟨by rfl, ?y39⟩) hS ?r39; (case y39 => (intro W hW; (go_simp); (try with_reducible rfl); done)); try simp only [Act.put, List.setIfInBounds_toArray, List.set_cons_zero, List.set_cons_succ]); (refine hTake (i := 9) (v := ?v40) rfl (by kernel_rfl) (by kernel_rfl) (by kernel_rfl) (fun _ _ _ h => h) (Or.inl ⟨by rfl, ?y40⟩) hS ?r40; (case y40 => (intro W hW; (go_simp); (try with_reducible rfl); done)); try simp only [Act.put, List.setIfInBounds_toArray, List.set_cons_zero, List.set_cons_succ]); (refine hTake (i := 10) rfl (by kernel_rfl) (by kernel_rfl) (by kernel_rfl) (fun _ _ _ h => h) (yieldsIf_load_mid (by rfl) _ _ rfl _ _ rfl (bv L[j].d) _ (fun W hW => (by obtain ⟨g', o', e, _, hr⟩ := hW.rf.row j hjl; cases e; exact oneRow_dig hr)) Try.underlying30 rfl (by rw [bv_length, hdj]; exact info_digest)) hS ?_; try simp only [Act.put, List.setIfInBounds_toArray, List.set_cons_zero, List.set_cons_succ]); (refine hTake (i := 11) (v := ?v41) rfl (by kernel_rfl) (by kernel_rfl) (by kernel_rfl) (fun _ _ _ h => h) (Or.inl ⟨by rfl, ?y41⟩) hS ?r41; (case y41 => (intro W hW; (go_simp); (try with_reducible rfl); done)); try simp only [Act.put, List.setIfInBounds_toArray, List.set_cons_zero, List.set_cons_succ]); (refine hTake (i := 12) (v := ?v42) rfl (by kernel_rfl) (by kernel_rfl) (by kernel_rfl) (fun _ _ _ h => h) (Or.inl ⟨by rfl, ?y42⟩) hS ?r42; (case y42 => (intro W hW; ((have g1 := hW.s.cell 1; simp at g1; go_simp)); (try with_reducible rfl); done)); try simp only [Act.put, List.setIfInBounds_toArray, List.set_cons_zero, List.set_cons_succ]); (refine hTake (i := 13) (v := ?v43) rfl (by kernel_rfl) (by kernel_rfl) (by kernel_rfl) (fun _ _ _ h => h) (Or.inl ⟨by rfl, ?y43⟩) hS ?r43; (case y43 => (intro W hW; (go_simp); (try with_reducible rfl); done)); try simp only [Act.put, List.setIfInBounds_toArray, List.set_cons_zero, List.set_cons_succ]); (refine hTake (i := 14) (v := ?v44) rfl (by kernel_rfl) (by kernel_rfl) (by kernel_rfl) (fun _ _ _ h => h) (Or.inl ⟨by rfl, ?y44⟩) hS ?r44; (case y44 => (intro W hW; (go_simp); (try with_reducible rfl); done)); try simp only [Act.put, List.setIfInBounds_toArray, List.set_cons_zero, List.set_cons_succ]); (refine hTake (i := 15) (v := ?v45) rfl (by kernel_rfl) (by kernel_rfl) (by kernel_rfl) (fun _ _ _ h => h) (Or.inl ⟨by rfl, ?y45⟩) hS ?r45; (case y45 => (intro W hW; (go_simp); (try with_reducible rfl); done)); try simp only [Act.put, List.setIfInBounds_toArray, List.set_cons_zero, List.set_cons_succ]); (refine hTake (i := 16) rfl (by kernel_rfl) (by kernel_rfl) (by kernel_rfl) (fun _ _ _ h => h) (yieldsIf_load_mid (by rfl) _ _ rfl _ _ rfl (bv L[k].d) _ (fun W hW => (by obtain ⟨g', o', e, _, hr⟩ := hW.rf.row k hk; cases e; exact oneRow_dig hr)) Try.underlying30 rfl (by rw [bv_length, hdk]; exact info_digest)) hS ?_; try simp only [Act.put, List.setIfInBounds_toArray, List.set_cons_zero, List.set_cons_succ]); (refine hOne (i := 17) rfl (by kernel_rfl) (fun K hK => ?_)); rw [if_pos (by rfl)]; go_simp; refine (ref_Less L[j].d L[k].d hdj hdk _).mono ?_; rintro e w2 ⟨rfl, hb2⟩; rw [hld]; have hS2 := Lib.hid (hS.step hb2); clear hb2 hS; go_wp2_with fail; (refine hK.out _ _ (by exact hS2.out) (fun hS => ?_); clear hK K; try simp only [Act.put, List.setIfInBounds_toArray, List.set_cons_zero, List.set_cons_succ]); clear hS2; (refine hTake (i := 18) (v := ?v46) rfl (by kernel_rfl) (by kernel_rfl) (by kernel_rfl) (fun _ _ _ h => h) (Or.inl ⟨by rfl, ?y46⟩) hS ?r46; (case y46 => (intro W hW; (go_simp); (try with_reducible rfl); done)); try simp only [Act.put, List.setIfInBounds_toArray, List.set_cons_zero, List.set_cons_succ]); (refine hTake (i := 19) (v := ?v47) rfl (by kernel_rfl) (by kernel_rfl) (by kernel_rfl) (fun _ _ _ h => h) (Or.inl ⟨by rfl, ?y47⟩) hS ?r47; (case y47 => (intro W hW; (go_simp); (try with_reducible rfl); done)); try simp only [Act.put, List.setIfInBounds_toArray, List.set_cons_zero, List.set_cons_succ]); refine wpAnyH_done (by kernel_rfl) ?_ _)
                (have hi := Lib.hid hS; clear hS; go_wp2_with fail; first | exact ⟨⟨j + 1, _, by omega, rfl, by go_num, hi.out, (hb.out.more hk hjl hl.out)⟩, by simp [intOf]; omega⟩ | (go_roundw; (case rel => exact ⟨j + 1, _, by omega, rfl, by go_num, hi.out, (hb.out.more hk hjl hl.out)⟩); (case measure => (simp [intOf]; omega))))
          · obtain ⟨p, hmp⟩ : ∃ p, m' = p + 1 := ⟨m' - 1, by have := hm.out; have : outs.length ≠ 0 := fun e => he (List.eq_nil_of_length_eq_zero e); omega⟩
            have hpl : p < outs.length := by have := hm.out; omega
            have hlast := Lib.hid (show outs.getLast? = some outs[p] by
              rw [List.getLast?_eq_getElem?, List.getElem?_eq_getElem (by omega)]
              congr 2
              have := hm.out; omega)
            have hpd := hi.out.o.ds _ (List.getElem_mem hpl)
            have hz : ((m' : Int) == 0) = false := by simp; omega
            have hm63 : (m' : Int) ≤ 9223372036854775807 := by have := hm.out; omega
            have hz2 : IntKind.i64.wrap ((m' : Int) - 1) = (m' : Int) - 1 := by simp [IntKind.wrap, IntKind.bits, IntKind.signed]; omega
            have hz3 : ((m' : Int) - 1).toNat = p := by omega
            have hz4 : (1 : Int) ≤ (m' : Int) := by omega
            have hz5 : (m' : Int) - 1 < (m' : Int) := by omega
            replace hmp := Lib.hid hmp
            obtain ⟨g2, o2, rfl, hg2, hr2⟩ := hi.out.o.is_.row p hpl
            clear hr2 hg2
            replace he := Lib.hid he
            have hbeh := Lib.hid (hsel.out.behind (y := L[j].d) (List.mem_map.2 ⟨_, List.getElem_mem hjl, rfl⟩))
            by_cases hmm : L[j].d ∈ outs
            · have hld : decide (outs[p] < L[j].d) = false := decide_eq_false fun hlt => hbeh.out.2 (.inr ⟨_, hlast.out, hlt⟩) hmm
              replace hmm := Lib.hid hmm
              go_wp2_with fail
              (refine wp_region_held_drew (S := (LiI w most L (some ⟨g, o, none⟩) n c outs (some ⟨g2, o2, none⟩) m' c')) (by kernel_rfl) (by exact hi.out.drew) (fun hS => ?_); clear hi c1; (refine hTake (i := 0) (v := ?v48) rfl (by kernel_rfl) (by kernel_rfl) (by kernel_rfl) (fun _ _ _ h => h) (Or.inl ⟨by rfl, ?y48⟩) hS ?r48; (case y48 => (intro W hW; (go_simp); (try with_reducible rfl); done)); try simp only [Act.put, List.setIfInBounds_toArray, List.set_cons_zero, List.set_cons_succ]); (refine hTake (i := 1) (v := ?v49) rfl (by kernel_rfl) (by kernel_rfl) (by kernel_rfl) (fun _ _ _ h => h) (Or.inl ⟨by rfl, ?y49⟩) hS ?r49; (case y49 => (intro W hW; (go_simp); (try with_reducible rfl); done)); try simp only [Act.put, List.setIfInBounds_toArray, List.set_cons_zero, List.set_cons_succ]); (refine hTake (i := 2) (v := ?v50) rfl (by kernel_rfl) (by kernel_rfl) (by kernel_rfl) (fun _ _ _ h => h) (Or.inl ⟨by rfl, ?y50⟩) hS ?r50; (case y50 => (intro W hW; (go_simp); (try with_reducible rfl); done)); try simp only [Act.put, List.setIfInBounds_toArray, List.set_cons_zero, List.set_cons_succ]); (refine hTake (i := 3) (v := ?v51) rfl (by kernel_rfl) (by kernel_rfl) (by kernel_rfl) (fun _ _ _ h => h) (Or.inl ⟨by rfl, ?y51⟩) hS ?r51; (case y51 => (intro W hW; (go_simp); (try with_reducible rfl); done)); try simp only [Act.put, List.setIfInBounds_toArray, List.set_cons_zero, List.set_cons_succ]); (refine hTake (i := 4) (v := ?v52) rfl (by kernel_rfl) (by kernel_rfl) (by kernel_rfl) (fun _ _ _ h => h) (Or.inl ⟨by rfl, ?y52⟩) hS ?r52; (case y52 => (intro W hW; (go_simp); (try with_reducible rfl); done)); try simp only [Act.put, List.setIfInBounds_toArray, List.set_cons_zero, List.set_cons_succ]); (refine hTake (i := 5) (v := ?v53) rfl (by kernel_rfl) (by kernel_rfl) (by kernel_rfl) (fun _ _ _ h => h) (Or.inl ⟨by rfl, ?y53⟩) hS ?r53; (case y53 => (intro W hW; (go_simp); (try with_reducible rfl); done)); try simp only [Act.put, List.setIfInBounds_toArray, List.set_cons_zero, List.set_cons_succ]); (refine hTake (i := 6) (v := ?v54) rfl (by kernel_rfl) (by kernel_rfl) (by kernel_rfl) (fun _ _ _ h => h) (Or.inl ⟨by rfl, ?y54⟩) hS ?r54; (case y54 => (intro W hW; (go_simp); (try with_reducible rfl); done)); try simp only [Act.put, List.setIfInBounds_toArray, List.set_cons_zero, List.set_cons_succ]); (refine hTake (i := 7) (v := ?v55) rfl (by kernel_rfl) (by kernel_rfl) (by kernel_rfl) (fun _ _ _ h => h) (Or.inl ⟨by rfl, ?y55⟩) hS ?r55; (case y55 => (intro W hW; (go_simp); (try with_reducible rfl); done)); try simp only [Act.put, List.setIfInBounds_toArray, List.set_cons_zero, List.set_cons_succ]); (refine hTake (i := 8) (v := ?v56) rfl (by kernel_rfl) (by kernel_rfl) (by kernel_rfl) (fun _ _ _ h => h) (Or.inl ⟨by rfl, ?y56⟩) hS ?r56; (case y56 => (intro W hW; (go_simp); (try with_reducible rfl); done)); try simp only [Act.put, List.setIfInBounds_toArray, List.set_cons_zero, List.set_cons_succ]); (refine hTake (i := 9) rfl (by kernel_rfl) (by kernel_rfl) (by kernel_rfl) (fun _ _ _ h => h) (yieldsIf_load_mid (by rfl) _ _ rfl _ _ rfl (bv outs[p]) _ (fun W hW => (by obtain ⟨g', o', e, _, hr⟩ := hW.o.is_.row p hpl; cases e; exact hr)) Try.underlying30 rfl (by rw [bv_length, hpd]; exact info_digest)) hS ?_; try simp only [Act.put, List.setIfInBounds_toArray, List.set_cons_zero, List.set_cons_succ]); (refine hTake (i := 10) (v := ?v57) rfl (by kernel_rfl) (by kernel_rfl) (by kernel_rfl) (fun _ _ _ h => h) (Or.inl ⟨by rfl, ?y57⟩) hS ?r57; (case y57 => (intro W hW; (go_simp); (try with_reducible rfl); done)); try simp only [Act.put, List.setIfInBounds_toArray, List.set_cons_zero, List.set_cons_succ]); (refine hTake (i := 11) (v := ?v58) rfl (by kernel_rfl) (by kernel_rfl) (by kernel_rfl) (fun _ _ _ h => h) (Or.inl ⟨by rfl, ?y58⟩) hS ?r58; (case y58 => (intro W hW; ((have g1 := hW.s.cell 1; simp at g1; go_simp)); (try with_reducible rfl); done)); try simp only [Act.put, List.setIfInBounds_toArray, List.set_cons_zero, List.set_cons_succ]); (refine hTake (i := 12) (v := ?v59) rfl (by kernel_rfl) (by kernel_rfl) (by kernel_rfl) (fun _ _ _ h => h) (Or.inl ⟨by rfl, ?y59⟩) hS ?r59; (case y59 => (intro W hW; (go_simp); (try with_reducible rfl); done)); try simp only [Act.put, List.setIfInBounds_toArray, List.set_cons_zero, List.set_cons_succ]); (refine hTake (i := 13) (v := ?v60) rfl (by kernel_rfl) (by kernel_rfl) (by kernel_rfl) (fun _ _ _ h => h) (Or.inl ⟨by rfl, ?y60⟩) hS ?r60; (case y60 => (intro W hW; (go_simp); (try with_reducible rfl); done)); try simp only [Act.put, List.setIfInBounds_toArray, List.set_cons_zero, List.set_cons_succ]); (refine hTake (i := 14) (v := ?v61) rfl (by kernel_rfl) (by kernel_rfl) (by kernel_rfl) (fun _ _ _ h => h) (Or.inl ⟨by rfl, ?y61⟩) hS ?r61; (case y61 => (intro W hW; (go_simp); (try with_reducible rfl); done)); try simp only [Act.put, List.setIfInBounds_toArray, List.set_cons_zero, List.set_cons_succ]); (refine hTake (i := 15) rfl (by kernel_rfl) (by kernel_rfl) (by kernel_rfl) (fun _ _ _ h => h) (yieldsIf_load_mid (by rfl) _ _ rfl _ _ rfl (bv L[j].d) _ (fun W hW => (by obtain ⟨g', o', e, _, hr⟩ := hW.rf.row j hjl; cases e; exact oneRow_dig hr)) Try.underlying30 rfl (by rw [bv_length, hdj]; exact info_digest)) hS ?_; try simp only [Act.put, List.setIfInBounds_toArray, List.set_cons_zero, List.set_cons_succ]); (refine hOne (i := 16) rfl (by kernel_rfl) (fun K hK => ?_)); rw [if_pos (by rfl)]; go_simp; refine (ref_Less outs[p] L[j].d hpd hdj _).mono ?_; rintro e w2 ⟨rfl, hb2⟩; rw [hld]; have hS2 := Lib.hid (hS.step hb2); clear hb2 hS; go_wp2_with fail; (refine hK.out _ _ (by exact hS2.out) (fun hS => ?_); clear hK K; try simp only [Act.put, List.setIfInBounds_toArray, List.set_cons_zero, List.set_cons_succ]); clear hS2; (refine hTake (i := 17) (v := ?v62) rfl (by kernel_rfl) (by kernel_rfl) (by kernel_rfl) (fun _ _ _ h => h) (Or.inl ⟨by rfl, ?y62⟩) hS ?r62; (case y62 => (intro W hW; (go_simp); (try with_reducible rfl); done)); try simp only [Act.put, List.setIfInBounds_toArray, List.set_cons_zero, List.set_cons_succ]); (refine hTake (i := 18) (v := ?v63) rfl (by kernel_rfl) (by kernel_rfl) (by kernel_rfl) (fun _ _ _ h => h) (Or.inl ⟨by rfl, ?y63⟩) hS ?r63; (case y63 => (intro W hW; (go_simp); (try with_reducible rfl); done)); try simp only [Act.put, List.setIfInBounds_toArray, List.set_cons_zero, List.set_cons_succ]); refine wpAnyH_done (by kernel_rfl) ?_ _)
              have hi := Lib.hid hS
              clear hS
              go_wp2_with fail
              refine wp_region_held_drew (S := (LiI w most L (some ⟨g, o, none⟩) n c outs (some ⟨g2, o2, none⟩) m' c')) (by kernel_rfl) (by exact hi.out.drew) (fun hS => ?_)
              clear hi
              ((refine hTake (i := 0) (v := ?v64) rfl (by kernel_rfl) (by kernel_rfl) (by kernel_rfl) (fun _ _ _ h => h) (Or.inl ⟨by rfl, ?y64⟩) hS ?r64; (case y64 => (intro W hW; (go_simp); (try with_reducible rfl); done)); try simp only [Act.put, List.setIfInBounds_toArray, List.set_cons_zero, List.set_cons_succ]); (refine hTake (i := 1) (v := ?v65) rfl (by kernel_rfl) (by kernel_rfl) (by kernel_rfl) (fun _ _ _ h => h) (Or.inl ⟨by rfl, ?y65⟩) hS ?r65; (case y65 => (intro W hW; (go_simp); (try with_reducible rfl); done)); try simp only [Act.put, List.setIfInBounds_toArray, List.set_cons_zero, List.set_cons_succ]); (refine hTake (i := 2) (v := undef) rfl (by kernel_rfl) (by kernel_rfl) (by kernel_rfl) (fun _ _ _ h => h) (Or.inr ⟨by rfl, rfl⟩) hS ?_; try simp only [Act.put, List.setIfInBounds_toArray, List.set_cons_zero, List.set_cons_succ]); (refine hTake (i := 3) (v := undef) rfl (by kernel_rfl) (by kernel_rfl) (by kernel_rfl) (fun _ _ _ h => h) (Or.inr ⟨by rfl, rfl⟩) hS ?_; try simp only [Act.put, List.setIfInBounds_toArray, List.set_cons_zero, List.set_cons_succ]); (refine hTake (i := 4) (v := undef) rfl (by kernel_rfl) (by kernel_rfl) (by kernel_rfl) (fun _ _ _ h => h) (Or.inr ⟨by rfl, rfl⟩) hS ?_; try simp only [Act.put, List.setIfInBounds_toArray, List.set_cons_zero, List.set_cons_succ]); (refine hTake (i := 5) (v := undef) rfl (by kernel_rfl) (by kernel_rfl) (by kernel_rfl) (fun _ _ _ h => h) (Or.inr ⟨by rfl, rfl⟩) hS ?_; try simp only [Act.put, List.setIfInBounds_toArray, List.set_cons_zero, List.set_cons_succ]); (refine hTake (i := 6) (v := undef) rfl (by kernel_rfl) (by kernel_rfl) (by kernel_rfl) (fun _ _ _ h => h) (Or.inr ⟨by rfl, rfl⟩) hS ?_; try simp only [Act.put, List.setIfInBounds_toArray, List.set_cons_zero, List.set_cons_succ]); (refine hTake (i := 7) (v := undef) rfl (by kernel_rfl) (by kernel_rfl) (by kernel_rfl) (fun _ _ _ h => h) (Or.inr ⟨by rfl, rfl⟩) hS ?_; try simp only [Act.put, List.setIfInBounds_toArray, List.set_cons_zero, List.set_cons_succ]); (refine hTake (i := 8) (v := undef) rfl (by kernel_rfl) (by kernel_rfl) (by kernel_rfl) (fun _ _ _ h => h) (Or.inr ⟨by rfl, rfl⟩) hS ?_; try simp only [Act.put, List.setIfInBounds_toArray, List.set_cons_zero, List.set_cons_succ]); (refine hTake (i := 9) (v := undef) rfl (by kernel_rfl) (by kernel_rfl) (by kernel_rfl) (fun _ _ _ h => h) (Or.inr ⟨by rfl, rfl⟩) hS ?_; try simp only [Act.put, List.setIfInBounds_toArray, List.set_cons_zero, List.set_cons_succ]); (refine hTake (i := 10) (v := undef) rfl (by kernel_rfl) (by kernel_rfl) (by kernel_rfl) (fun _ _ _ h => h) (Or.inr ⟨by rfl, rfl⟩) hS ?_; try simp only [Act.put, List.setIfInBounds_toArray, List.set_cons_zero, List.set_cons_succ]); (refine hTake (i := 11) (v := undef) rfl (by kernel_rfl) (by kernel_rfl) (by kernel_rfl) (fun _ _ _ h => h) (Or.inr ⟨by rfl, rfl⟩) hS ?_; try simp only [Act.put, List.setIfInBounds_toArray, List.set_cons_zero, List.set_cons_succ]); (refine hTake (i := 12) (v := undef) rfl (by kernel_rfl) (by kernel_rfl) (by kernel_rfl) (fun _ _ _ h => h) (Or.inr ⟨by rfl, rfl⟩) hS ?_; try simp only [Act.put, List.setIfInBounds_toArray, List.set_cons_zero, List.set_cons_succ]); (refine hTake (i := 13) (v := undef) rfl (by kernel_rfl) (by kernel_rfl) (by kernel_rfl) (fun _ _ _ h => h) (Or.inr ⟨by rfl, rfl⟩) hS ?_; try simp only [Act.put, List.setIfInBounds_toArray, List.set_cons_zero, List.set_cons_succ]); (refine hTake (i := 14) (v := undef) rfl (by kernel_rfl) (by kernel_rfl) (by kernel_rfl) (fun _ _ _ h => h) (Or.inr ⟨by rfl, rfl⟩) hS ?_; try simp only [Act.put, List.setIfInBounds_toArray, List.set_cons_zero, List.set_cons_succ]); (refine hTake (i := 15) (v := undef) rfl (by kernel_rfl) (by kernel_rfl) (by kernel_rfl) (fun _ _ _ h => h) (Or.inr ⟨by rfl, rfl⟩) hS ?_; try simp only [Act.put, List.setIfInBounds_toArray, List.set_cons_zero, List.set_cons_succ]); (refine hTake (i := 16) (v := undef) rfl (by kernel_rfl) (by kernel_rfl) (by kernel_rfl) (fun _ _ _ h => h) (Or.inr ⟨by rfl, rfl⟩) hS ?_; try simp only [Act.put, List.setIfInBounds_toArray, List.set_cons_zero, List.set_cons_succ]); (refine hTake (i := 17) (v := undef) rfl (by kernel_rfl) (by kernel_rfl) (by kernel_rfl) (fun _ _ _ h => h) (Or.inr ⟨by rfl, rfl⟩) hS ?_; try simp only [Act.put, List.setIfInBounds_toArray, List.set_cons_zero, List.set_cons_succ]); (refine hTake (i := 18) (v := undef) rfl (by kernel_rfl) (by kernel_rfl) (by kernel_rfl) (fun _ _ _ h => h) (Or.inr ⟨by rfl, rfl⟩) hS ?_; try simp only [Act.put, List.setIfInBounds_toArray, List.set_cons_zero, List.set_cons_succ]); (refine hTake (i := 19) (v := ?v66) rfl (by kernel_rfl) (by kernel_rfl) (by kernel_rfl) (fun _ _ _ h => h) (Or.inl ⟨by rfl, ?y66⟩) hS ?r66; (case y66 => (intro W hW; (go_simp); (try with_reducible rfl); done)); try simp only [Act.put, List.setIfInBounds_toArray, List.set_cons_zero, List.set_cons_succ]); refine wpAnyH_done (by kernel_rfl) ?_ _)
              (have hi := Lib.hid hS; clear hS; go_wp2_with fail; first | exact ⟨⟨j + 1, _, by omega, rfl, by go_num, hi.out, (hb.out.not_ hjl hmm.out)⟩, by simp [intOf]; omega⟩ | (go_roundw; (case rel => exact ⟨j + 1, _, by omega, rfl, by go_num, hi.out, (hb.out.not_ hjl hmm.out)⟩); (case measure => (simp [intOf]; omega))))
            · have hld : decide (outs[p] < L[j].d) = true := decide_eq_true (by
                rcases hbeh.out.1 hmm with e | ⟨x, hx, hlt⟩
                · exact absurd e he.out
                · rw [hlast.out] at hx; cases hx; exact hlt)
              replace hmm := Lib.hid hmm
              go_wp2_with fail
              (refine wp_region_held_drew (S := (LiI w most L (some ⟨g, o, none⟩) n c outs (some ⟨g2, o2, none⟩) m' c')) (by kernel_rfl) (by exact hi.out.drew) (fun hS => ?_); clear hi c1; (refine hTake (i := 0) (v := ?v67) rfl (by kernel_rfl) (by kernel_rfl) (by kernel_rfl) (fun _ _ _ h => h) (Or.inl ⟨by rfl, ?y67⟩) hS ?r67; (case y67 => (intro W hW; (go_simp); (try with_reducible rfl); done)); try simp only [Act.put, List.setIfInBounds_toArray, List.set_cons_zero, List.set_cons_succ]); (refine hTake (i := 1) (v := ?v68) rfl (by kernel_rfl) (by kernel_rfl) (by kernel_rfl) (fun _ _ _ h => h) (Or.inl ⟨by rfl, ?y68⟩) hS ?r68; (case y68 => (intro W hW; (go_simp); (try with_reducible rfl); done)); try simp only [Act.put, List.setIfInBounds_toArray, List.set_cons_zero, List.set_cons_succ]); (refine hTake (i := 2) (v := ?v69) rfl (by kernel_rfl) (by kernel_rfl) (by kernel_rfl) (fun _ _ _ h => h) (Or.inl ⟨by rfl, ?y69⟩) hS ?r69; (case y69 => (intro W hW; (go_simp); (try with_reducible rfl); done)); try simp only [Act.put, List.setIfInBounds_toArray, List.set_cons_zero, List.set_cons_succ]); (refine hTake (i := 3) (v := ?v70) rfl (by kernel_rfl) (by kernel_rfl) (by kernel_rfl) (fun _ _ _ h => h) (Or.inl ⟨by rfl, ?y70⟩) hS ?r70; (case y70 => (intro W hW; (go_simp); (try with_reducible rfl); done)); try simp only [Act.put, List.setIfInBounds_toArray, List.set_cons_zero, List.set_cons_succ]); (refine hTake (i := 4) (v := ?v71) rfl (by kernel_rfl) (by kernel_rfl) (by kernel_rfl) (fun _ _ _ h => h) (Or.inl ⟨by rfl, ?y71⟩) hS ?r71; (case y71 => (intro W hW; (go_simp); (try with_reducible rfl); done)); try simp only [Act.put, List.setIfInBounds_toArray, List.set_cons_zero, List.set_cons_succ]); (refine hTake (i := 5) (v := ?v72) rfl (by kernel_rfl) (by kernel_rfl) (by kernel_rfl) (fun _ _ _ h => h) (Or.inl ⟨by rfl, ?y72⟩) hS ?r72; (case y72 => (intro W hW; (go_simp); (try with_reducible rfl); done)); try simp only [Act.put, List.setIfInBounds_toArray, List.set_cons_zero, List.set_cons_succ]); (refine hTake (i := 6) (v := ?v73) rfl (by kernel_rfl) (by kernel_rfl) (by kernel_rfl) (fun _ _ _ h => h) (Or.inl ⟨by rfl, ?y73⟩) hS ?r73; (case y73 => (intro W hW; (go_simp); (try with_reducible rfl); done)); try simp only [Act.put, List.setIfInBounds_toArray, List.set_cons_zero, List.set_cons_succ]); (refine hTake (i := 7) (v := ?v74) rfl (by kernel_rfl) (by kernel_rfl) (by kernel_rfl) (fun _ _ _ h => h) (Or.inl ⟨by rfl, ?y74⟩) hS ?r74; (case y74 => (intro W hW; (go_simp); (try with_reducible rfl); done)); try simp only [Act.put, List.setIfInBounds_toArray, List.set_cons_zero, List.set_cons_succ]); (refine hTake (i := 8) (v := ?v75) rfl (by kernel_rfl) (by kernel_rfl) (by kernel_rfl) (fun _ _ _ h => h) (Or.inl ⟨by rfl, ?y75⟩) hS ?r75; (case y75 => (intro W hW; (go_simp); (try with_reducible rfl); done)); try simp only [Act.put, List.setIfInBounds_toArray, List.set_cons_zero, List.set_cons_succ]); (refine hTake (i := 9) rfl (by kernel_rfl) (by kernel_rfl) (by kernel_rfl) (fun _ _ _ h => h) (yieldsIf_load_mid (by rfl) _ _ rfl _ _ rfl (bv outs[p]) _ (fun W hW => (by obtain ⟨g', o', e, _, hr⟩ := hW.o.is_.row p hpl; cases e; exact hr)) Try.underlying30 rfl (by rw [bv_length, hpd]; exact info_digest)) hS ?_; try simp only [Act.put, List.setIfInBounds_toArray, List.set_cons_zero, List.set_cons_succ]); (refine hTake (i := 10) (v := ?v76) rfl (by kernel_rfl) (by kernel_rfl) (by kernel_rfl) (fun _ _ _ h => h) (Or.inl ⟨by rfl, ?y76⟩) hS ?r76; (case y76 => (intro W hW; (go_simp); (try with_reducible rfl); done)); try simp only [Act.put, List.setIfInBounds_toArray, List.set_cons_zero, List.set_cons_succ]); (refine hTake (i := 11) (v := ?v77) rfl (by kernel_rfl) (by kernel_rfl) (by kernel_rfl) (fun _ _ _ h => h) (Or.inl ⟨by rfl, ?y77⟩) hS ?r77; (case y77 => (intro W hW; ((have g1 := hW.s.cell 1; simp at g1; go_simp)); (try with_reducible rfl); done)); try simp only [Act.put, List.setIfInBounds_toArray, List.set_cons_zero, List.set_cons_succ]); (refine hTake (i := 12) (v := ?v78) rfl (by kernel_rfl) (by kernel_rfl) (by kernel_rfl) (fun _ _ _ h => h) (Or.inl ⟨by rfl, ?y78⟩) hS ?r78; (case y78 => (intro W hW; (go_simp); (try with_reducible rfl); done)); try simp only [Act.put, List.setIfInBounds_toArray, List.set_cons_zero, List.set_cons_succ]); (refine hTake (i := 13) (v := ?v79) rfl (by kernel_rfl) (by kernel_rfl) (by kernel_rfl) (fun _ _ _ h => h) (Or.inl ⟨by rfl, ?y79⟩) hS ?r79; (case y79 => (intro W hW; (go_simp); (try with_reducible rfl); done)); try simp only [Act.put, List.setIfInBounds_toArray, List.set_cons_zero, List.set_cons_succ]); (refine hTake (i := 14) (v := ?v80) rfl (by kernel_rfl) (by kernel_rfl) (by kernel_rfl) (fun _ _ _ h => h) (Or.inl ⟨by rfl, ?y80⟩) hS ?r80; (case y80 => (intro W hW; (go_simp); (try with_reducible rfl); done)); try simp only [Act.put, List.setIfInBounds_toArray, List.set_cons_zero, List.set_cons_succ]); (refine hTake (i := 15) rfl (by kernel_rfl) (by kernel_rfl) (by kernel_rfl) (fun _ _ _ h => h) (yieldsIf_load_mid (by rfl) _ _ rfl _ _ rfl (bv L[j].d) _ (fun W hW => (by obtain ⟨g', o', e, _, hr⟩ := hW.rf.row j hjl; cases e; exact oneRow_dig hr)) Try.underlying30 rfl (by rw [bv_length, hdj]; exact info_digest)) hS ?_; try simp only [Act.put, List.setIfInBounds_toArray, List.set_cons_zero, List.set_cons_succ]); (refine hOne (i := 16) rfl (by kernel_rfl) (fun K hK => ?_)); rw [if_pos (by rfl)]; go_simp; refine (ref_Less outs[p] L[j].d hpd hdj _).mono ?_; rintro e w2 ⟨rfl, hb2⟩; rw [hld]; have hS2 := Lib.hid (hS.step hb2); clear hb2 hS; go_wp2_with fail; (refine hK.out _ _ (by exact hS2.out) (fun hS => ?_); clear hK K; try simp only [Act.put, List.setIfInBounds_toArray, List.set_cons_zero, List.set_cons_succ]); clear hS2; (refine hTake (i := 17) (v := ?v81) rfl (by kernel_rfl) (by kernel_rfl) (by kernel_rfl) (fun _ _ _ h => h) (Or.inl ⟨by rfl, ?y81⟩) hS ?r81; (case y81 => (intro W hW; (go_simp); (try with_reducible rfl); done)); try simp only [Act.put, List.setIfInBounds_toArray, List.set_cons_zero, List.set_cons_succ]); (refine hTake (i := 18) (v := ?v82) rfl (by kernel_rfl) (by kernel_rfl) (by kernel_rfl) (fun _ _ _ h => h) (Or.inl ⟨by rfl, ?y82⟩) hS ?r82; (case y82 => (intro W hW; (go_simp); (try with_reducible rfl); done)); try simp only [Act.put, List.setIfInBounds_toArray, List.set_cons_zero, List.set_cons_succ]); refine wpAnyH_done (by kernel_rfl) ?_ _)
              have hi := Lib.hid hS
              clear hS hz hz2 hz3 hz4 hz5 hm63 hld
              rcases (show b = -1 ∨ ∃ k, ∃ hk : k < L.length, b = (k : Int) from hb.out.elim (fun h => .inl h.1) fun ⟨k, hk, h, _⟩ => .inr ⟨k, hk, h⟩) with rfl | ⟨k, hk, rfl⟩
              · go_wp2_with fail
                (refine wp_region_held_drew (S := (LiI w most L (some ⟨g, o, none⟩) n c outs (some ⟨g2, o2, none⟩) m' c')) (by kernel_rfl) (by exact hi.out.drew) (fun hS => ?_); clear hi; (refine hTake (i := 0) (v := ?v83) rfl (by kernel_rfl) (by kernel_rfl) (by kernel_rfl) (fun _ _ _ h => h) (Or.inl ⟨by rfl, ?y83⟩) hS ?r83; (case y83 => (intro W hW; (go_simp); (try with_reducible rfl); done)); try simp only [Act.put, List.setIfInBounds_toArray, List.set_cons_zero, List.set_cons_succ]); (refine hTake (i := 1) (v := ?v84) rfl (by kernel_rfl) (by kernel_rfl) (by kernel_rfl) (fun _ _ _ h => h) (Or.inl ⟨by rfl, ?y84⟩) hS ?r84; (case y84 => (intro W hW; (go_simp); (try with_reducible rfl); done)); try simp only [Act.put, List.setIfInBounds_toArray, List.set_cons_zero, List.set_cons_succ]); (refine hTake (i := 2) (v := ?v85) rfl (by kernel_rfl) (by kernel_rfl) (by kernel_rfl) (fun _ _ _ h => h) (Or.inl ⟨by rfl, ?y85⟩) hS ?r85; (case y85 => (intro W hW; (go_simp); (try with_reducible rfl); done)); try simp only [Act.put, List.setIfInBounds_toArray, List.set_cons_zero, List.set_cons_succ]); (refine hTake (i := 3) (v := ?v86) rfl (by kernel_rfl) (by kernel_rfl) (by kernel_rfl) (fun _ _ _ h => h) (Or.inl ⟨by rfl, ?y86⟩) hS ?r86; (case y86 => (intro W hW; (go_simp); (try with_reducible rfl); done)); try simp only [Act.put, List.setIfInBounds_toArray, List.set_cons_zero, List.set_cons_succ]); (refine hTake (i := 4) (v := ?v87) rfl (by kernel_rfl) (by kernel_rfl) (by kernel_rfl) (fun _ _ _ h => h) (Or.inl ⟨by rfl, ?y87⟩) hS ?r87; (case y87 => (intro W hW; (go_simp); (try with_reducible rfl); done)); try simp only [Act.put, List.setIfInBounds_toArray, List.set_cons_zero, List.set_cons_succ]); (refine hTake (i := 5) (v := undef) rfl (by kernel_rfl) (by kernel_rfl) (by kernel_rfl) (fun _ _ _ h => h) (Or.inr ⟨by rfl, rfl⟩) hS ?_; try simp only [Act.put, List.setIfInBounds_toArray, List.set_cons_zero, List.set_cons_succ]); (refine hTake (i := 6) (v := undef) rfl (by kernel_rfl) (by kernel_rfl) (by kernel_rfl) (fun _ _ _ h => h) (Or.inr ⟨by rfl, rfl⟩) hS ?_; try simp only [Act.put, List.setIfInBounds_toArray, List.set_cons_zero, List.set_cons_succ]); (refine hTake (i := 7) (v := undef) rfl (by kernel_rfl) (by kernel_rfl) (by kernel_rfl) (fun _ _ _ h => h) (Or.inr ⟨by rfl, rfl⟩) hS ?_; try simp only [Act.put, List.setIfInBounds_toArray, List.set_cons_zero, List.set_cons_succ]); (refine hTake (i := 8) (v := undef) rfl (by kernel_rfl) (by kernel_rfl) (by kernel_rfl) (fun _ _ _ h => h) (Or.inr ⟨by rfl, rfl⟩) hS ?_; try simp only [Act.put, List.setIfInBounds_toArray, List.set_cons_zero, List.set_cons_succ]); (refine hTake (i := 9) (v := undef) rfl (by kernel_rfl) (by kernel_rfl) (by kernel_rfl) (fun _ _ _ h => h) (Or.inr ⟨by rfl, rfl⟩) hS ?_; try simp only [Act.put, List.setIfInBounds_toArray, List.set_cons_zero, List.set_cons_succ]); (refine hTake (i := 10) (v := undef) rfl (by kernel_rfl) (by kernel_rfl) (by kernel_rfl) (fun _ _ _ h => h) (Or.inr ⟨by rfl, rfl⟩) hS ?_; try simp only [Act.put, List.setIfInBounds_toArray, List.set_cons_zero, List.set_cons_succ]); (refine hTake (i := 11) (v := undef) rfl (by kernel_rfl) (by kernel_rfl) (by kernel_rfl) (fun _ _ _ h => h) (Or.inr ⟨by rfl, rfl⟩) hS ?_; try simp only [Act.put, List.setIfInBounds_toArray, List.set_cons_zero, List.set_cons_succ]); (refine hTake (i := 12) (v := undef) rfl (by kernel_rfl) (by kernel_rfl) (by kernel_rfl) (fun _ _ _ h => h) (Or.inr ⟨by rfl, rfl⟩) hS ?_; try simp only [Act.put, List.setIfInBounds_toArray, List.set_cons_zero, List.set_cons_succ]); (refine hTake (i := 13) (v := undef) rfl (by kernel_rfl) (by kernel_rfl) (by kernel_rfl) (fun _ _ _ h => h) (Or.inr ⟨by rfl, rfl⟩) hS ?_; try simp only [Act.put, List.setIfInBounds_toArray, List.set_cons_zero, List.set_cons_succ]); (refine hTake (i := 14) (v := undef) rfl (by kernel_rfl) (by kernel_rfl) (by kernel_rfl) (fun _ _ _ h => h) (Or.inr ⟨by rfl, rfl⟩) hS ?_; try simp only [Act.put, List.setIfInBounds_toArray, List.set_cons_zero, List.set_cons_succ]); (refine hTake (i := 15) (v := undef) rfl (by kernel_rfl) (by kernel_rfl) (by kernel_rfl) (fun _ _ _ h => h) (Or.inr ⟨by rfl, rfl⟩) hS ?_; try simp only [Act.put, List.setIfInBounds_toArray, List.set_cons_zero, List.set_cons_succ]); (refine hTake (i := 16) (v := undef) rfl (by kernel_rfl) (by kernel_rfl) (by kernel_rfl) (fun _ _ _ h => h) (Or.inr ⟨by rfl, rfl⟩) hS ?_; try simp only [Act.put, List.setIfInBounds_toArray, List.set_cons_zero, List.set_cons_succ]); (refine hTake (i := 17) (v := undef) rfl (by kernel_rfl) (by kernel_rfl) (by kernel_rfl) (fun _ _ _ h => h) (Or.inr ⟨by rfl, rfl⟩) hS ?_; try simp only [Act.put, List.setIfInBounds_toArray, List.set_cons_zero, List.set_cons_succ]); (refine hTake (i := 18) (v := ?v88) rfl (by kernel_rfl) (by kernel_rfl) (by kernel_rfl) (fun _ _ _ h => h) (Or.inl ⟨by rfl, ?y88⟩) hS ?r88; (case y88 => (intro W hW; (go_simp); (try with_reducible rfl); done)); try simp only [Act.put, List.setIfInBounds_toArray, List.set_cons_zero, List.set_cons_succ]); (refine hTake (i := 19) (v := ?v89) rfl (by kernel_rfl) (by kernel_rfl) (by kernel_rfl) (fun _ _ _ h => h) (Or.inl ⟨by rfl, ?y89⟩) hS ?r89; (case y89 => (intro W hW; (go_simp); (try with_reducible rfl); done)); try simp only [Act.put, List.setIfInBounds_toArray, List.set_cons_zero, List.set_cons_succ]); refine wpAnyH_done (by kernel_rfl) ?_ _)
                (have hi := Lib.hid hS; clear hS; go_wp2_with fail; first | exact ⟨⟨j + 1, _, by omega, rfl, by go_num, hi.out, (hb.out.first hjl hmm.out)⟩, by simp [intOf]; omega⟩ | (go_roundw; (case rel => exact ⟨j + 1, _, by omega, rfl, by go_num, hi.out, (hb.out.first hjl hmm.out)⟩); (case measure => (simp [intOf]; omega))))
              · have hdk := hds.out _ (List.getElem_mem hk)
                have hkn : (k : Int) < n := by have := hlen.out; omega
                by_cases hl : L[j].d < L[k].d
                · have hld := decide_eq_true hl
                  replace hl := Lib.hid hl
                  go_wp2_with fail
                  (refine wp_region_held_drew (S := (LiI w most L (some ⟨g, o, none⟩) n c outs (some ⟨g2, o2, none⟩) m' c')) (by kernel_rfl) (by exact hi.out.drew) (fun hS => ?_); clear hi; (refine hTake (i := 0) (v := ?v90) rfl (by kernel_rfl) (by kernel_rfl) (by kernel_rfl) (fun _ _ _ h => h) (Or.inl ⟨by rfl, ?y90⟩) hS ?r90; (case y90 => (intro W hW; (go_simp); (try with_reducible rfl); done)); try simp only [Act.put, List.setIfInBounds_toArray, List.set_cons_zero, List.set_cons_succ]); (refine hTake (i := 1) (v := ?v91) rfl (by kernel_rfl) (by kernel_rfl) (by kernel_rfl) (fun _ _ _ h => h) (Or.inl ⟨by rfl, ?y91⟩) hS ?r91; (case y91 => (intro W hW; (go_simp); (try with_reducible rfl); done)); try simp only [Act.put, List.setIfInBounds_toArray, List.set_cons_zero, List.set_cons_succ]); (refine hTake (i := 2) (v := ?v92) rfl (by kernel_rfl) (by kernel_rfl) (by kernel_rfl) (fun _ _ _ h => h) (Or.inl ⟨by rfl, ?y92⟩) hS ?r92; (case y92 => (intro W hW; (go_simp); (try with_reducible rfl); done)); try simp only [Act.put, List.setIfInBounds_toArray, List.set_cons_zero, List.set_cons_succ]); (refine hTake (i := 3) (v := ?v93) rfl (by kernel_rfl) (by kernel_rfl) (by kernel_rfl) (fun _ _ _ h => h) (Or.inl ⟨by rfl, ?y93⟩) hS ?r93; (case y93 => (intro W hW; (go_simp); (try with_reducible rfl); done)); try simp only [Act.put, List.setIfInBounds_toArray, List.set_cons_zero, List.set_cons_succ]); (refine hTake (i := 4) (v := ?v94) rfl (by kernel_rfl) (by kernel_rfl) (by kernel_rfl) (fun _ _ _ h => h) (Or.inl ⟨by rfl, ?y94⟩) hS ?r94; (case y94 => (intro W hW; (go_simp); (try with_reducible rfl); done)); try simp only [Act.put, List.setIfInBounds_toArray, List.set_cons_zero, List.set_cons_succ]); (refine hTake (i := 5) (v := ?v95) rfl (by kernel_rfl) (by kernel_rfl) (by kernel_rfl) (fun _ _ _ h => h) (Or.inl ⟨by rfl, ?y95⟩) hS ?r95; (case y95 => (intro W hW; (go_simp); (try with_reducible rfl); done)); try simp only [Act.put, List.setIfInBounds_toArray, List.set_cons_zero, List.set_cons_succ]); (refine hTake (i := 6) (v := ?v96) rfl (by kernel_rfl) (by kernel_rfl) (by kernel_rfl) (fun _ _ _ h => h) (Or.inl ⟨by rfl, ?y96⟩) hS ?r96; (case y96 => (intro W hW; ((have g1 := hW.s.cell 1; simp at g1; go_simp)); (try with_reducible rfl); done)); try simp only [Act.put, List.setIfInBounds_toArray, List.set_cons_zero, List.set_cons_succ]); (refine hTake (i := 7) (v := ?v97) rfl (by kernel_rfl) (by kernel_rfl) (by kernel_rfl) (fun _ _ _ h => h) (Or.inl ⟨by rfl, ?y97⟩) hS ?r97; (case y97 => (intro W hW; (go_simp); (try with_reducible rfl); done)); try simp only [Act.put, List.setIfInBounds_toArray, List.set_cons_zero, List.set_cons_succ]); (refine hTake (i := 8) (v := ?v98) rfl (by kernel_rfl) (by kernel_rfl) (by kernel_rfl) (fun _ _ _ h => h) (Or.inl ⟨by rfl, ?y98⟩) hS ?r98; (case y98 => (intro W hW; (go_simp); (try with_reducible rfl); done)); try simp only [Act.put, List.setIfInBounds_toArray, List.set_cons_zero, List.set_cons_succ]); (refine hTake (i := 9) (v := ?v99) rfl (by kernel_rfl) (by kernel_rfl) (by kernel_rfl) (fun _ _ _ h => h) (Or.inl ⟨by rfl, ?y99⟩) hS ?r99; (case y99 => (intro W hW; (go_simp); (try with_reducible rfl); done)); try simp only [Act.put, List.setIfInBounds_toArray, List.set_cons_zero, List.set_cons_succ]); (refine hTake (i := 10) rfl (by kernel_rfl) (by kernel_rfl) (by kernel_rfl) (fun _ _ _ h => h) (yieldsIf_load_mid (by rfl) _ _ rfl _ _ rfl (bv L[j].d) _ (fun W hW => (by obtain ⟨g', o', e, _, hr⟩ := hW.rf.row j hjl; cases e; exact oneRow_dig hr)) Try.underlying30 rfl (by rw [bv_length, hdj]; exact info_digest)) hS ?_; try simp only [Act.put, List.setIfInBounds_toArray, List.set_cons_zero, List.set_cons_succ]); (refine hTake (i := 11) (v := ?v100) rfl (by kernel_rfl) (by kernel_rfl) (by kernel_rfl) (fun _ _ _ h => h) (Or.inl ⟨by rfl, ?y100⟩) hS ?r100; (case y100 => (intro W hW; (go_simp); (try with_reducible rfl); done)); try simp only [Act.put, List.setIfInBounds_toArray, List.set_cons_zero, List.set_cons_succ]); (refine hTake (i := 12) (v := ?v101) rfl (by kernel_rfl) (by kernel_rfl) (by kernel_rfl) (fun _ _ _ h => h) (Or.inl ⟨by rfl, ?y101⟩) hS ?r101; (case y101 => (intro W hW; ((have g1 := hW.s.cell 1; simp at g1; go_simp)); (try with_reducible rfl); done)); try simp only [Act.put, List.setIfInBounds_toArray, List.set_cons_zero, List.set_cons_succ]); (refine hTake (i := 13) (v := ?v102) rfl (by kernel_rfl) (by kernel_rfl) (by kernel_rfl) (fun _ _ _ h => h) (Or.inl ⟨by rfl, ?y102⟩) hS ?r102; (case y102 => (intro W hW; (go_simp); (try with_reducible rfl); done)); try simp only [Act.put, List.setIfInBounds_toArray, List.set_cons_zero, List.set_cons_succ]); (refine hTake (i := 14) (v := ?v103) rfl (by kernel_rfl) (by kernel_rfl) (by kernel_rfl) (fun _ _ _ h => h) (Or.inl ⟨by rfl, ?y103⟩) hS ?r103; (case y103 => (intro W hW; (go_simp); (try with_reducible rfl); done)); try simp only [Act.put, List.setIfInBounds_toArray, List.set_cons_zero, List.set_cons_succ]); (refine hTake (i := 15) (v := ?v104) rfl (by kernel_rfl) (by kernel_rfl) (by kernel_rfl) (fun _ _ _ h => h) (Or.inl ⟨by rfl, ?y104⟩) hS ?r104; (case y104 => (intro W hW; (go_simp); (try with_reducible rfl); done)); try simp only [Act.put, List.setIfInBounds_toArray, List.set_cons_zero, List.set_cons_succ]); (refine hTake (i := 16) rfl (by kernel_rfl) (by kernel_rfl) (by kernel_rfl) (fun _ _ _ h => h) (yieldsIf_load_mid (by rfl) _ _ rfl _ _ rfl (bv L[k].d) _ (fun W hW => (by obtain ⟨g', o', e, _, hr⟩ := hW.rf.row k hk; cases e; exact oneRow_dig hr)) Try.underlying30 rfl (by rw [bv_length, hdk]; exact info_digest)) hS ?_; try simp only [Act.put, List.setIfInBounds_toArray, List.set_cons_zero, List.set_cons_succ]); (refine hOne (i := 17) rfl (by kernel_rfl) (fun K hK => ?_)); rw [if_pos (by rfl)]; go_simp; refine (ref_Less L[j].d L[k].d hdj hdk _).mono ?_; rintro e w2 ⟨rfl, hb2⟩; rw [hld]; have hS2 := Lib.hid (hS.step hb2); clear hb2 hS; go_wp2_with fail; (refine hK.out _ _ (by exact hS2.out) (fun hS => ?_); clear hK K; try simp only [Act.put, List.setIfInBounds_toArray, List.set_cons_zero, List.set_cons_succ]); clear hS2; (refine hTake (i := 18) (v := ?v105) rfl (by kernel_rfl) (by kernel_rfl) (by kernel_rfl) (fun _ _ _ h => h) (Or.inl ⟨by rfl, ?y105⟩) hS ?r105; (case y105 => (intro W hW; (go_simp); (try with_reducible rfl); done)); try simp only [Act.put, List.setIfInBounds_toArray, List.set_cons_zero, List.set_cons_succ]); (refine hTake (i := 19) (v := ?v106) rfl (by kernel_rfl) (by kernel_rfl) (by kernel_rfl) (fun _ _ _ h => h) (Or.inl ⟨by rfl, ?y106⟩) hS ?r106; (case y106 => (intro W hW; (go_simp); (try with_reducible rfl); done)); try simp only [Act.put, List.setIfInBounds_toArray, List.set_cons_zero, List.set_cons_succ]); refine wpAnyH_done (by kernel_rfl) ?_ _)
                  (have hi := Lib.hid hS; clear hS; go_wp2_with fail; first | exact ⟨⟨j + 1, _, by omega, rfl, by go_num, hi.out, (hb.out.less hk hjl hmm.out hl.out)⟩, by simp [intOf]; omega⟩ | (go_roundw; (case rel => exact ⟨j + 1, _, by omega, rfl, by go_num, hi.out, (hb.out.less hk hjl hmm.out hl.out)⟩); (case measure => (simp [intOf]; omega))))
                · have hld := decide_eq_false hl
                  replace hl := Lib.hid hl
                  go_wp2_with fail
                  (refine wp_region_held_drew (S := (LiI w most L (some ⟨g, o, none⟩) n c outs (some ⟨g2, o2, none⟩) m' c')) (by kernel_rfl) (by exact hi.out.drew) (fun hS => ?_); clear hi; (refine hTake (i := 0) (v := ?v107) rfl (by kernel_rfl) (by kernel_rfl) (by kernel_rfl) (fun _ _ _ h => h) (Or.inl ⟨by rfl, ?y107⟩) hS ?r107; (case y107 => (intro W hW; (go_simp); (try with_reducible rfl); done)); try simp only [Act.put, List.setIfInBounds_toArray, List.set_cons_zero, List.set_cons_succ]); (refine hTake (i := 1) (v := ?v108) rfl (by kernel_rfl) (by kernel_rfl) (by kernel_rfl) (fun _ _ _ h => h) (Or.inl ⟨by rfl, ?y108⟩) hS ?r108; (case y108 => (intro W hW; (go_simp); (try with_reducible rfl); done)); try simp only [Act.put, List.setIfInBounds_toArray, List.set_cons_zero, List.set_cons_succ]); (refine hTake (i := 2) (v := ?v109) rfl (by kernel_rfl) (by kernel_rfl) (by kernel_rfl) (fun _ _ _ h => h) (Or.inl ⟨by rfl, ?y109⟩) hS ?r109; (case y109 => (intro W hW; (go_simp); (try with_reducible rfl); done)); try simp only [Act.put, List.setIfInBounds_toArray, List.set_cons_zero, List.set_cons_succ]); (refine hTake (i := 3) (v := ?v110) rfl (by kernel_rfl) (by kernel_rfl) (by kernel_rfl) (fun _ _ _ h => h) (Or.inl ⟨by rfl, ?y110⟩) hS ?r110; (case y110 => (intro W hW; (go_simp); (try with_reducible rfl); done)); try simp only [Act.put, List.setIfInBounds_toArray, List.set_cons_zero, List.set_cons_succ]); (refine hTake (i := 4) (v := ?v111) rfl (by kernel_rfl) (by kernel_rfl) (by kernel_rfl) (fun _ _ _ h => h) (Or.inl ⟨by rfl, ?y111⟩) hS ?r111; (case y111 => (intro W hW; (go_simp); (try with_reducible rfl); done)); try simp only [Act.put, List.setIfInBounds_toArray, List.set_cons_zero, List.set_cons_succ]); (refine hTake (i := 5) (v := ?v112) rfl (by kernel_rfl) (by kernel_rfl) (by kernel_rfl) (fun _ _ _ h => h) (Or.inl ⟨by rfl, ?y112⟩) hS ?r112; (case y112 => (intro W hW; (go_simp); (try with_reducible rfl); done)); try simp only [Act.put, List.setIfInBounds_toArray, List.set_cons_zero, List.set_cons_succ]); (refine hTake (i := 6) (v := ?v113) rfl (by kernel_rfl) (by kernel_rfl) (by kernel_rfl) (fun _ _ _ h => h) (Or.inl ⟨by rfl, ?y113⟩) hS ?r113; (case y113 => (intro W hW; ((have g1 := hW.s.cell 1; simp at g1; go_simp)); (try with_reducible rfl); done)); try simp only [Act.put, List.setIfInBounds_toArray, List.set_cons_zero, List.set_cons_succ]); (refine hTake (i := 7) (v := ?v114) rfl (by kernel_rfl) (by kernel_rfl) (by kernel_rfl) (fun _ _ _ h => h) (Or.inl ⟨by rfl, ?y114⟩) hS ?r114; (case y114 => (intro W hW; (go_simp); (try with_reducible rfl); done)); try simp only [Act.put, List.setIfInBounds_toArray, List.set_cons_zero, List.set_cons_succ]); (refine hTake (i := 8) (v := ?v115) rfl (by kernel_rfl) (by kernel_rfl) (by kernel_rfl) (fun _ _ _ h => h) (Or.inl ⟨by rfl, ?y115⟩) hS ?r115; (case y115 => (intro W hW; (go_simp); (try with_reducible rfl); done)); try simp only [Act.put, List.setIfInBounds_toArray, List.set_cons_zero, List.set_cons_succ]); (refine hTake (i := 9) (v := ?v116) rfl (by kernel_rfl) (by kernel_rfl) (by kernel_rfl) (fun _ _ _ h => h) (Or.inl ⟨by rfl, ?y116⟩) hS ?r116; (case y116 => (intro W hW; (go_simp); (try with_reducible rfl); done)); try simp only [Act.put, List.setIfInBounds_toArray, List.set_cons_zero, List.set_cons_succ]); (refine hTake (i := 10) rfl (by kernel_rfl) (by kernel_rfl) (by kernel_rfl) (fun _ _ _ h => h) (yieldsIf_load_mid (by rfl) _ _ rfl _ _ rfl (bv L[j].d) _ (fun W hW => (by obtain ⟨g', o', e, _, hr⟩ := hW.rf.row j hjl; cases e; exact oneRow_dig hr)) Try.underlying30 rfl (by rw [bv_length, hdj]; exact info_digest)) hS ?_; try simp only [Act.put, List.setIfInBounds_toArray, List.set_cons_zero, List.set_cons_succ]); (refine hTake (i := 11) (v := ?v117) rfl (by kernel_rfl) (by kernel_rfl) (by kernel_rfl) (fun _ _ _ h => h) (Or.inl ⟨by rfl, ?y117⟩) hS ?r117; (case y117 => (intro W hW; (go_simp); (try with_reducible rfl); done)); try simp only [Act.put, List.setIfInBounds_toArray, List.set_cons_zero, List.set_cons_succ]); (refine hTake (i := 12) (v := ?v118) rfl (by kernel_rfl) (by kernel_rfl) (by kernel_rfl) (fun _ _ _ h => h) (Or.inl ⟨by rfl, ?y118⟩) hS ?r118; (case y118 => (intro W hW; ((have g1 := hW.s.cell 1; simp at g1; go_simp)); (try with_reducible rfl); done)); try simp only [Act.put, List.setIfInBounds_toArray, List.set_cons_zero, List.set_cons_succ]); (refine hTake (i := 13) (v := ?v119) rfl (by kernel_rfl) (by kernel_rfl) (by kernel_rfl) (fun _ _ _ h => h) (Or.inl ⟨by rfl, ?y119⟩) hS ?r119; (case y119 => (intro W hW; (go_simp); (try with_reducible rfl); done)); try simp only [Act.put, List.setIfInBounds_toArray, List.set_cons_zero, List.set_cons_succ]); (refine hTake (i := 14) (v := ?v120) rfl (by kernel_rfl) (by kernel_rfl) (by kernel_rfl) (fun _ _ _ h => h) (Or.inl ⟨by rfl, ?y120⟩) hS ?r120; (case y120 => (intro W hW; (go_simp); (try with_reducible rfl); done)); try simp only [Act.put, List.setIfInBounds_toArray, List.set_cons_zero, List.set_cons_succ]); (refine hTake (i := 15) (v := ?v121) rfl (by kernel_rfl) (by kernel_rfl) (by kernel_rfl) (fun _ _ _ h => h) (Or.inl ⟨by rfl, ?y121⟩) hS ?r121; (case y121 => (intro W hW; (go_simp); (try with_reducible rfl); done)); try simp only [Act.put, List.setIfInBounds_toArray, List.set_cons_zero, List.set_cons_succ]); (refine hTake (i := 16) rfl (by kernel_rfl) (by kernel_rfl) (by kernel_rfl) (fun _ _ _ h => h) (yieldsIf_load_mid (by rfl) _ _ rfl _ _ rfl (bv L[k].d) _ (fun W hW => (by obtain ⟨g', o', e, _, hr⟩ := hW.rf.row k hk; cases e; exact oneRow_dig hr)) Try.underlying30 rfl (by rw [bv_length, hdk]; exact info_digest)) hS ?_; try simp only [Act.put, List.setIfInBounds_toArray, List.set_cons_zero, List.set_cons_succ]); (refine hOne (i := 17) rfl (by kernel_rfl) (fun K hK => ?_)); rw [if_pos (by rfl)]; go_simp; refine (ref_Less L[j].d L[k].d hdj hdk _).mono ?_; rintro e w2 ⟨rfl, hb2⟩; rw [hld]; have hS2 := Lib.hid (hS.step hb2); clear hb2 hS; go_wp2_with fail; (refine hK.out _ _ (by exact hS2.out) (fun hS => ?_); clear hK K; try simp only [Act.put, List.setIfInBounds_toArray, List.set_cons_zero, List.set_cons_succ]); clear hS2; (refine hTake (i := 18) (v := ?v122) rfl (by kernel_rfl) (by kernel_rfl) (by kernel_rfl) (fun _ _ _ h => h) (Or.inl ⟨by rfl, ?y122⟩) hS ?r122; (case y122 => (intro W hW; (go_simp); (try with_reducible rfl); done)); try simp only [Act.put, List.setIfInBounds_toArray, List.set_cons_zero, List.set_cons_succ]); (refine hTake (i := 19) (v := ?v123) rfl (by kernel_rfl) (by kernel_rfl) (by kernel_rfl) (fun _ _ _ h => h) (Or.inl ⟨by rfl, ?y123⟩) hS ?r123; (case y123 => (intro W hW; (go_simp); (try with_reducible rfl); done)); try simp only [Act.put, List.setIfInBounds_toArray, List.set_cons_zero, List.set_cons_succ]); refine wpAnyH_done (by kernel_rfl) ?_ _)
                  (have hi := Lib.hid hS; clear hS; go_wp2_with fail; first | exact ⟨⟨j + 1, _, by omega, rfl, by go_num, hi.out, (hb.out.more hk hjl hl.out)⟩, by simp [intOf]; omega⟩ | (go_roundw; (case rel => exact ⟨j + 1, _, by omega, rfl, by go_num, hi.out, (hb.out.more hk hjl hl.out)⟩); (case measure => (simp [intOf]; omega))))
        · obtain rfl : j = n := by omega
          have hjn' : ¬ (j : Int) < j := by omega
          have hleft := hsel.out.left (by rw [List.length_map, ← hlen.out, ← hm.out]; exact hlt) hnd.out
          obtain ⟨k, hk, rfl, hkn, hkm⟩ : ∃ k, ∃ hk : k < L.length, b = (k : Int) ∧ L[k].d ∉ outs ∧ ∀ q (hq : q < L.length), L[q].d ∉ outs → ¬ L[q].d < L[k].d := by
            rcases hb with ⟨_, h⟩ | ⟨k, hk, h0, h1, h2⟩
            · obtain ⟨y, hy, hn⟩ := hleft
              obtain ⟨o, ho, rfl⟩ := List.mem_map.1 hy
              obtain ⟨q, hq, rfl⟩ := List.getElem_of_mem ho
              exact absurd (h q hq (by have := hlen.out; omega)) hn
            · exact ⟨k, hk, h0, h1, fun q hq => h2 q hq (by have := hlen.out; omega)⟩
          clear hb hleft
          have hsn := Lib.hid (hsel.out.next (List.mem_map.2 ⟨_, List.getElem_mem hk, rfl⟩) hkn (fun z hz hzn => by
            obtain ⟨o, ho, rfl⟩ := List.mem_map.1 hz
            obtain ⟨q, hq, rfl⟩ := List.getElem_of_mem ho
            exact hkm q hq hzn))
          have hdk := hds.out _ (List.getElem_mem hk)
          have hkj : (k : Int) < j := by have := hlen.out; omega
          obtain ⟨g, o, rfl, hg, hr⟩ := hi.rf.row k hk
          replace hr := Lib.hid (oneRow_dig hr)
          have hOn := Lib.hid (hi.o.below ((Below.refl wr.heap.size wr).alloc (Nat.le_refl _) (.cells (row32 L[k].d) 30)))
          have hRo := Lib.hid (dig_one wr L[k].d hdk)
          have hsz := Lib.hid hi.s.lt
          have hml := Lib.hid (show (m' + 1) * 32 ≤ 140737488355328 by have := hlim.out; omega)
          have hN := Lib.hid (fun w5 A5 c5 (h5 : DsL (w.heap.size + 1) w5 A5 (m' + 1) c5 (outs ++ [L[k].d])) (h6 : (wr.alloc (.cells (row32 L[k].d) 30)).grownBy w5 (Value.slice A' m' c').ownBlock) => hi.next (.cells (row32 L[k].d) 30) h5 h6)
          clear hi hkn hkm
          replace hkm := hsel
          clear hsel
          go_wp2_with (first
            | (refine wpList_mid_g (by rfl) 30 _ rfl g (o + k * 34) rfl (bv L[k].d) _ hr.out Try.underlying30 rfl (by rw [bv_length, hdk]; exact info_digest) ?_)
            | (refine wpList_build_dig rfl _ rfl L[k].d hdk rfl ?_)
            | (at_builtin; refine wpList_append_digs rfl _ _ rfl hOn.out (by have := hsz.out; simp; omega) rfl rfl hRo.out hml.out ?_; intro A5 c5 w5 hL5 hg5 _; replace hN := Lib.hid (hN.out w5 A5 c5 hL5 hg5); clear hL5 hg5)
            | fail)
          exact ⟨⟨_, A5, m' + 1, c5, rfl, hN.out, hsn.out, by simp; have := hm.out; omega⟩, by simp [sliceLen]; omega⟩
    · obtain rfl : m' = n := by have := hm.out; omega
      have hlt' : ¬ (m' : Int) < m' := by omega
      replace hi := Lib.hid hi
      have hfin := hsel.done hnd.out (by have := hm.out; have := hlen.out; omega)
      subst hfin
      go_wp2_with fail
      go_ret
      exact ⟨A', m', c', rfl, hi.out.o.is_, hi.out.bel⟩
end Go.Proofs.Ytioanppnkhiokaa

/-
  The store's Clone.
-/
namespace Go.Proofs.Ytioanppnkhiokaa
open Go.RowKit

set_option maxRecDepth 100000 in
set_option maxHeartbeats 1000000 in
theorem maps_Clone (b : Nat) (es : Array MapEntry) (clock : Nat) (w : World) (hb : w.heap[b]? = some (.map es clock)) :
    Calls Try.prog 37 #[.map (some b)] w fun e w' => e = .returned (.map (some w.heap.size)) ∧ w' = w.alloc (.map es clock) := by
  have hq := fun w => run_eql_map_nil_sl (P := Try.prog) w 75 _ _ (some b) Try.underlying75
  go_enter Try.func37, Try.ntmps37
  go_wp2
  rw [run_callFunc_extern Try.func45 (by kernel_rfl) (by kernel_rfl) (by kernel_rfl) (e := Extern.MapsClone.clone) (by kernel_rfl), run_maps_clone_sl w 75 hb]
  simp only [Result.andThen]
  rw [Oper.upon_value]
  go_wp2
  rw [run_typeAssert_map_sl _ 75 _ _ _ _ Try.underlying75]
  simp only [Result.andThen]
  rw [Oper.upon_value]
  go_wp2
  go_ret
  exact ⟨rfl, rfl⟩
theorem MapIs.clone {w : World} {b : Nat} {m : Assoc} (h : MapIs w b m) : ∃ es clock, w.heap[b]? = some (.map es clock) ∧ MapIs (w.alloc (.map es clock)) w.heap.size m := by
  obtain ⟨⟨es, clock, he, r⟩, r2, r3, r4⟩ := h
  exact ⟨es, clock, he, ⟨⟨es, clock, (MapKept.heap_alloc w _).1, r⟩, r2, r3, fun es' clock' h => by
    rw [(MapKept.heap_alloc w _).1] at h
    cases h
    exact r4 _ _ he⟩⟩
set_option maxRecDepth 100000 in
set_option maxHeartbeats 1000000 in
theorem db_Clone (S b : Nat) (most : Int) (m : Assoc) (w : World) (h : StoreIs w S b most m) :
    Calls Try.prog 23 #[.pointer (some ⟨S, 0, none⟩)] w fun e w' => ∃ T c, e = .returned (.pointer (some ⟨T, 0, none⟩)) ∧
      w.heap.size ≤ c ∧ c < T ∧ StoreIs w' T c most m ∧ Below w.heap.size w w' := by
  have g1 : w.cell? ⟨S, 1, none⟩ = some (.map (some b)) := h.cells.cell 1
  obtain ⟨es, clock, hb, hc⟩ := h.map.drew.clone
  have hM := Lib.hid (show MapIs (w.drew.alloc (.map es clock)) w.heap.size m from hc)
  replace hb := Lib.hid hb
  have h0 := Lib.hid h
  clear hc h
  go_enter Try.func23, Try.ntmps23
  go_wp2_with fail
  refine wp_region_held_drew (S := (fun W => StoreIs W S b most m)) (by kernel_rfl) (by exact h0.out.drew) (fun hS => ?_)
  (refine hTake (i := 0) (v := ?v1) rfl (by kernel_rfl) (by kernel_rfl) (by kernel_rfl) (fun _ _ _ h => h) (Or.inl ⟨by rfl, ?y1⟩) hS ?r1; (case y1 => (intro W hW; (go_simp); (try with_reducible rfl); done)); try simp only [Act.put, List.setIfInBounds_toArray, List.set_cons_zero, List.set_cons_succ])
  (refine hTake (i := 1) (v := ?v2) rfl (by kernel_rfl) (by kernel_rfl) (by kernel_rfl) (fun _ _ _ h => h) (Or.inl ⟨by rfl, ?y2⟩) hS ?r2; (case y2 => (intro W hW; (go_simp); (try with_reducible rfl); done)); try simp only [Act.put, List.setIfInBounds_toArray, List.set_cons_zero, List.set_cons_succ])
  (refine hTake (i := 2) (v := ?v3) rfl (by kernel_rfl) (by kernel_rfl) (by kernel_rfl) (fun _ _ _ h => h) (Or.inl ⟨by rfl, ?y3⟩) hS ?r3; (case y3 => (intro W hW; (go_simp); (try with_reducible rfl); done)); try simp only [Act.put, List.setIfInBounds_toArray, List.set_cons_zero, List.set_cons_succ])
  (refine hTake (i := 3) (v := ?v4) rfl (by kernel_rfl) (by kernel_rfl) (by kernel_rfl) (fun _ _ _ h => h) (Or.inl ⟨by rfl, ?y4⟩) hS ?r4; (case y4 => (intro W hW; ((have g := hW.cells.cell 0; simp at g; go_simp)); (try with_reducible rfl); done)); try simp only [Act.put, List.setIfInBounds_toArray, List.set_cons_zero, List.set_cons_succ])
  (refine hTake (i := 4) (v := ?v5) rfl (by kernel_rfl) (by kernel_rfl) (by kernel_rfl) (fun _ _ _ h => h) (Or.inl ⟨by rfl, ?y5⟩) hS ?r5; (case y5 => (intro W hW; (go_simp); (try with_reducible rfl); done)); try simp only [Act.put, List.setIfInBounds_toArray, List.set_cons_zero, List.set_cons_succ])
  (refine hTake (i := 5) (v := ?v6) rfl (by kernel_rfl) (by kernel_rfl) (by kernel_rfl) (fun _ _ _ h => h) (Or.inl ⟨by rfl, ?y6⟩) hS ?r6; (case y6 => (intro W hW; (go_simp); (try with_reducible rfl); done)); try simp only [Act.put, List.setIfInBounds_toArray, List.set_cons_zero, List.set_cons_succ])
  (refine hTake (i := 6) (v := ?v7) rfl (by kernel_rfl) (by kernel_rfl) (by kernel_rfl) (fun _ _ _ h => h) (Or.inl ⟨by rfl, ?y7⟩) hS ?r7; (case y7 => (intro W hW; (go_simp); (try with_reducible rfl); done)); try simp only [Act.put, List.setIfInBounds_toArray, List.set_cons_zero, List.set_cons_succ])
  (refine hTake (i := 7) (v := ?v8) rfl (by kernel_rfl) (by kernel_rfl) (by kernel_rfl) (fun _ _ _ h => h) (Or.inl ⟨by rfl, ?y8⟩) hS ?r8; (case y8 => (intro W hW; ((have g := hW.cells.cell 1; simp at g; go_simp)); (try with_reducible rfl); done)); try simp only [Act.put, List.setIfInBounds_toArray, List.set_cons_zero, List.set_cons_succ])
  (refine hOne (i := 8) rfl (by kernel_rfl) (fun K hK => ?_))
  rw [if_pos (by rfl)]
  go_simp
  refine (maps_Clone b es clock _ hb.out).mono ?_
  rintro e w1 ⟨rfl, rfl⟩
  go_wp2_with fail
  (refine hK.out _ _ (by exact h0.out.drew.alloc _) (fun hS => ?_); clear hK K; try simp only [Act.put, List.setIfInBounds_toArray, List.set_cons_zero, List.set_cons_succ])
  (refine hTake (i := 9) (v := ?v9) rfl (by kernel_rfl) (by kernel_rfl) (by kernel_rfl) (fun _ _ _ h => h) (Or.inl ⟨by rfl, ?y9⟩) hS ?r9; (case y9 => (intro W hW; (go_simp); (try with_reducible rfl); done)); try simp only [Act.put, List.setIfInBounds_toArray, List.set_cons_zero, List.set_cons_succ])
  (refine hOne (i := 10) rfl (by kernel_rfl) (fun K hK => ?_))
  go_simp
  (refine hK.out _ _ (by exact (h0.out.drew.alloc _).alloc _) (fun hS => ?_); clear hK K; try simp only [Act.put, List.setIfInBounds_toArray, List.set_cons_zero, List.set_cons_succ])
  (refine hTake (i := 11) (v := ?v10) rfl (by kernel_rfl) (by kernel_rfl) (by kernel_rfl) (fun _ _ _ h => h) (Or.inl ⟨by rfl, ?y10⟩) hS ?r10; (case y10 => (intro W hW; (go_simp); (try with_reducible rfl); done)); try simp only [Act.put, List.setIfInBounds_toArray, List.set_cons_zero, List.set_cons_succ])
  refine wpAnyH_done (by kernel_rfl) ?_ _
  go_wp2_with fail
  go_ret
  exact ⟨_, _, rfl, Nat.le_refl _, Nat.lt_succ_self _, ⟨Blk.new' (by simp), hM.out.alloc _, by simp⟩, ((Below.refl w.heap.size w).drew.alloc (Nat.le_refl _) _).alloc (by simp) _⟩
end Go.Proofs.Ytioanppnkhiokaa
