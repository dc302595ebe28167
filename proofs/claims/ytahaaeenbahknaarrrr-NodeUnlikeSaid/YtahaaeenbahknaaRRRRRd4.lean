/-
  Package nest: item at every depth, First, Decode.
-/
import Derived.Test.YtahaaeenbahknaaRRRRRd3
namespace Go.Proofs.YtahaaeenbahknaaRRRR
open Go.RowKit

theorem rd_item : ∀ (d : Nat), d ≤ 8 → ∀ (g : Nat) (A : Option Addr) (n c : Nat) (l : List UInt8) (w : World), RdIs w g A n c l →
    Calls Try.prog 43 #[.pointer (some ⟨g, 0, none⟩), .int .i64 (8 - (d : Int))] w (ItemQ (Ns.item d l) g w)
  | 0, _, g, A, n, c, l, w, h => rd_item_core 0 8 (.inl ⟨rfl, rfl⟩) g A n c l w h
  | d + 1, hd, g, A, n, c, l, w, h => by
    refine rd_item_core (d + 1) (8 - ((d + 1 : Nat) : Int)) (.inr ⟨by omega, by omega, rd_list_core d _ (by omega) (by omega) ?_⟩) g A n c l w h
    intro g A n c l w h
    rw [show 8 - ((d + 1 : Nat) : Int) + 1 = 8 - (d : Int) by omega]
    exact rd_item d (by omega) g A n c l w h
theorem results_row_tmps {P : Program} {fn : Func} {p q r : Tmp} {ty : TypeId} (h : fn.results = #[.cell p ty, .tmp q, .tmp r]) (tmps : Array Value) (w : World) (g : Nat) (t : TypeId) (cs : Array Value) (fr : Nat × Nat) (d : TypeDesc) (v u : Value)
    (hp : tmps.getD p undef = .pointer (some ⟨g, 0, none⟩)) (hq : tmps.getD q undef = v) (hr : tmps.getD r undef = u) (hg : w.heap[g]? = some (.cells cs t fr))
    (hu : P.underlying ty = some d) (hd : (match d with | .struct _ | .array _ _ => true | _ => false) = true) (hi : (P.info? ty).map (·.size) = some cs.size) :
    (results fn tmps).run P w = .ok (.tuple #[.agg cs, v, u]) w := by
  have hp' : tmps[p]?.getD undef = .pointer (some ⟨g, 0, none⟩) := by simpa using hp
  have hq' : tmps[q]?.getD undef = v := by simpa using hq
  have hr' : tmps[r]?.getD undef = u := by simpa using hr
  simp [results, h, hp', hq', hr', asAddr, run_loadVar_row w g t ty cs fr d hg hu hd hi]
theorem list_at {P : Program} {ops : Array Oper} {Q : Exit → Act → World → Prop} {rest : List Oper} {w : World} {a : Act} (I : World → Prop) (hI : I w) (h : ∀ w2, I w2 → wpList P ops Q rest a w2) : wpList P ops Q rest a w := h w hI
/-- what First answers -/
def FirstQ (l : List UInt8) (w : World) (e : Ending) (w' : World) : Prop := Below w.heap.size w w' ∧ match Ns.item 8 l with
  | .ok (x, r) => ∃ v, e = .returned (.tuple #[v, .int .i64 ((l.length - r.length : Nat) : Int), .int .i64 0]) ∧ Sits (fun b => w.heap.size ≤ b) w' 9 v x
  | .error k => e = .returned (.tuple #[itemZ, .int .i64 0, .int .i64 k]) ∧ k ≠ 0
structure FirI (w : World) (R gin gx : Nat) (A : Option Addr) (n c : Nat) (k : Int) (a b cc : Value) (T : World → Prop) (W : World) : Prop where
  res : Blk W R 46 rowZ
  row : Blk W gx 46 #[a, b, cc]
  s0 : W.cell? ⟨gin, 0, none⟩ = some (.slice A n c)
  s1 : W.cell? ⟨gin, 1, none⟩ = some (.int .i64 k)
  bel : Below w.heap.size w W
  sits : T W
theorem Blk.range3 {w : World} {g : Nat} {t : TypeId} {a b c : Value} (h : Blk w g t #[a, b, c]) : w.rangeAt g 0 [a, b, c] := fun j v hv => by
  rw [Nat.zero_add, h.cell j]
  simpa using hv
theorem first_keep (w1 : World) (cs : Array Value) (q : Nat) (hq : q < w1.heap.size) : ((w1.alloc (.cells rowZ 46)).setRow w1.heap.size cs).heap[q]? = w1.heap[q]? := by
  rw [setRow_other _ _ q _ (by omega), Below.heap_alloc w1 _ q hq]
theorem first_at {w w1 : World} {A : Option Addr} {n c : Nat} {k : Int} {a b cc : Value} {T : World → Prop} (hs : w.heap.size + 1 + 1 ≤ w1.heap.size) (hb : Blk w1 w.heap.size 46 rowZ) (hbe : Below w.heap.size w w1)
    (g0 : w1.cell? ⟨w.heap.size + 1, 0, none⟩ = some (.slice A n c)) (g1 : w1.cell? ⟨w.heap.size + 1, 1, none⟩ = some (.int .i64 k)) (hT : T ((w1.alloc (.cells rowZ 46)).setRow w1.heap.size #[a, b, cc])) :
    FirI w w.heap.size (w.heap.size + 1) w1.heap.size A n c k a b cc T ((w1.alloc (.cells rowZ 46)).setRow w1.heap.size #[a, b, cc]) := by
  have k1 := first_keep w1 #[a, b, cc]
  refine ⟨(k1 _ (by omega)).trans hb, (Blk.new w1 _ _).row _, (World.cell?_of_block (a := ⟨_, _, none⟩) (k1 _ (by show w.heap.size + 1 < _; omega))).trans g0, (World.cell?_of_block (a := ⟨_, _, none⟩) (k1 _ (by show w.heap.size + 1 < _; omega))).trans g1, ?_, hT⟩
  exact below_row (hbe.alloc (by omega) _) (by omega) _
set_option maxHeartbeats 1000000 in
set_option maxRecDepth 100000 in
theorem nest_First (A : Option Addr) (n c : Nat) (l : List UInt8) (w : World) (h : Bytes w w.heap.size A n c l) :
    Calls Try.prog 34 #[.slice A n c] w (FirstQ l w) := by
  have hlen := h.len
  have hn63 : (n : Int) ≤ 9223372036854775807 := by have := h.lim; have := h.cap; unfold maxLen at *; omega
  have hs1 : (w.alloc (.cells rowZ 46)).heap.size = w.heap.size + 1 := by simp
  have hri : RdIs ((w.alloc (.cells rowZ 46)).alloc (.cells #[.slice A n c, .int .i64 0] 79)) (w.heap.size + 1) A n c l :=
    ⟨Blk.new' hs1.symm, ((h.alloc (Nat.le_refl _) _).alloc (by simp) _).more (by omega)⟩
  have hb0 : Blk ((w.alloc (.cells rowZ 46)).alloc (.cells #[.slice A n c, .int .i64 0] 79)) w.heap.size 46 rowZ := (Blk.new w _ _).alloc _
  have hbe : Below w.heap.size w ((w.alloc (.cells rowZ 46)).alloc (.cells #[.slice A n c, .int .i64 0] 79)) := ((Below.refl _ _).alloc (Nat.le_refl _) _).alloc (by simp) _
  have hf := rd_item 8 (by omega) _ A n c l _ hri
  clear hri
  rw [show (8 : Int) - ((8 : Nat) : Int) = 0 by omega] at hf
  subst hlen
  go_enter Try.func34, Try.ntmps34
  go_wp2_with fail
  refine hf.mono ?_
  rintro e w1 hq
  obtain ⟨a, b, cc, rfl, h1, hcells, hg2, hcase⟩ := hq.rows
  have hs2 := hg2.size
  simp at hs2
  have hb1 := hb0.grown hg2 (by omega)
  have hbe1 := below_grown hbe hg2 (by omega) (by simp; omega)
  clear hf hq hb0 hbe hg2 h
  replace hb1 := Lib.hid hb1
  replace hcells := Lib.hid hcells
  rcases hcase with ⟨x, r, hx, hv, A', n', c', hr⟩ | ⟨k, hx, ⟨s1, s2, s3, hbad⟩, hk⟩
  · have g1 : w1.cell? ⟨w.heap.size + 1, 1, none⟩ = some (.int .i64 0) := hr.cells.cell 1
    have g0 : w1.cell? ⟨w.heap.size + 1, 0, none⟩ = some (.slice A' n' c') := hr.cells.cell 0
    have hrn := hr.txt.len
    subst hrn
    have hwr : IntKind.i64.wrap ((l.length : Int) - (r.length : Int)) = ((l.length - r.length : Nat) : Int) := by
      have := Ns.item_shorter hx
      rw [IntKind.wrap_i64]; omega
    replace hr := Lib.hid hr
    go_wp2_with (refine wpList_store_row rfl 46 _ _ rfl w1.heap.size #[a, b, cc] rfl rfl _ _ (Blk.new w1 46 rowZ) info_item3 rfl (by simpa using h1) ?_; refine list_at (FirI w w.heap.size (w.heap.size + 1) w1.heap.size A' r.length c' 0 a b cc (fun W => Sits (fun q => w.heap.size < q) W 9 (.agg #[a, b, cc]) x)) (first_at hs2 hb1.out hbe1 g0 g1 (hv.move _ _ _ (fun q h1 h2 => ⟨by simp at h1; omega, first_keep w1 _ q h2⟩) (by simp))) ?_; clear g0 g1; intro w2 hI; have g0 := hI.s0; have g1 := hI.s1; replace hI := Lib.hid hI)
    refine wp_region_held_drew (S := (fun W => W.rangeAt w1.heap.size 0 [a, b, cc] ∧ W.cell? ⟨w.heap.size + 1, 0, none⟩ = some (.slice A' r.length c'))) (by kernel_rfl) (by exact ⟨hI.out.row.drew.range3, hI.out.s0⟩) (fun hS => ?_)
    (refine hTake (i := 0) rfl (by kernel_rfl) (by kernel_rfl) (by kernel_rfl) (fun _ _ _ h => h) (yieldsIf_load_mid (by rfl) _ _ rfl _ _ rfl [a, b, cc] _ (fun W hW => hW.1) Try.underlying46 rfl info_item3) hS ?_; try simp only [Act.put, List.setIfInBounds_toArray, List.set_cons_zero, List.set_cons_succ])
    (refine hTake (i := 1) (v := ?v1) rfl (by kernel_rfl) (by kernel_rfl) (by kernel_rfl) (fun _ _ _ h => h) (Or.inl ⟨by rfl, ?y1⟩) hS ?r1; (case y1 => (intro W hW; (go_simp); (try with_reducible rfl); done)); try simp only [Act.put, List.setIfInBounds_toArray, List.set_cons_zero, List.set_cons_succ])
    (refine hTake (i := 2) (v := ?v2) rfl (by kernel_rfl) (by kernel_rfl) (by kernel_rfl) (fun _ _ _ h => h) (Or.inl ⟨by rfl, ?y2⟩) hS ?r2; (case y2 => (intro W hW; (go_simp); (try with_reducible rfl); done)); try simp only [Act.put, List.setIfInBounds_toArray, List.set_cons_zero, List.set_cons_succ])
    (refine hTake (i := 3) (v := ?v3) rfl (by kernel_rfl) (by kernel_rfl) (by kernel_rfl) (fun _ _ _ h => h) (Or.inl ⟨by rfl, ?y3⟩) hS ?r3; (case y3 => (intro W hW; (go_simp); (try with_reducible rfl); done)); try simp only [Act.put, List.setIfInBounds_toArray, List.set_cons_zero, List.set_cons_succ])
    (refine hTake (i := 4) (v := ?v4) rfl (by kernel_rfl) (by kernel_rfl) (by kernel_rfl) (fun _ _ _ h => h) (Or.inl ⟨by rfl, ?y4⟩) hS ?r4; (case y4 => (intro W hW; ((have g := hW.2; go_simp)); (try with_reducible rfl); done)); try simp only [Act.put, List.setIfInBounds_toArray, List.set_cons_zero, List.set_cons_succ])
    (refine hTake (i := 5) (v := ?v5) rfl (by kernel_rfl) (by kernel_rfl) (by kernel_rfl) (fun _ _ _ h => h) (Or.inl ⟨by rfl, ?y5⟩) hS ?r5; (case y5 => (intro W hW; (go_simp); (try with_reducible rfl); done)); try simp only [Act.put, List.setIfInBounds_toArray, List.set_cons_zero, List.set_cons_succ])
    (refine hTake (i := 6) (v := ?v6) rfl (by kernel_rfl) (by kernel_rfl) (by kernel_rfl) (fun _ _ _ h => h) (Or.inl ⟨by rfl, ?y6⟩) hS ?r6; (case y6 => (intro W hW; (go_simp); (try with_reducible rfl); done)); try simp only [Act.put, List.setIfInBounds_toArray, List.set_cons_zero, List.set_cons_succ])
    (refine hOne (i := 7) rfl (by kernel_rfl) (fun K hK => ?_))
    rw [if_pos (by rfl)]
    refine wp_store_row 46 _ _ rfl w.heap.size #[a, b, cc] rfl rfl _ _ hI.out.res.drew info_item3 rfl (by simpa using h1) ?_
    have hle : w.heap.size ≤ w1.heap.size := by omega
    have hne : ∀ q, q ≠ w.heap.size → (w2.drew.setRow w.heap.size #[a, b, cc]).heap[q]? = w2.drew.heap[q]? := fun q hq => setRow_other _ _ q _ hq
    (refine hK.out _ _ (by exact ⟨(show Blk _ _ _ _ from (hne _ (by omega)).trans hI.out.row.drew).range3, (World.cell?_of_block (a := ⟨_, _, none⟩) (hne _ (by show w.heap.size + 1 ≠ _; omega))).trans hI.out.s0⟩) (fun hS => ?_); clear hK K; try simp only [Act.put, List.setIfInBounds_toArray, List.set_cons_zero, List.set_cons_succ])
    (refine hTake (i := 8) (v := ?v7) rfl (by kernel_rfl) (by kernel_rfl) (by kernel_rfl) (fun _ _ _ h => h) (Or.inl ⟨by rfl, ?y7⟩) hS ?r7; (case y7 => (intro W hW; (go_simp); (try with_reducible rfl); done)); try simp only [Act.put, List.setIfInBounds_toArray, List.set_cons_zero, List.set_cons_succ])
    (refine hTake (i := 9) (v := ?v8) rfl (by kernel_rfl) (by kernel_rfl) (by kernel_rfl) (fun _ _ _ h => h) (Or.inl ⟨by rfl, ?y8⟩) hS ?r8; (case y8 => (intro W hW; (go_simp); (try with_reducible rfl); done)); try simp only [Act.put, List.setIfInBounds_toArray, List.set_cons_zero, List.set_cons_succ])
    refine wpAnyH_done (by kernel_rfl) ?_ _
    go_wp2_with fail
    refine bodyPost_ret (v := .tuple #[.agg #[a, b, cc], .int .i64 ((l.length - r.length : Nat) : Int), .int .i64 0]) (results_row_tmps rfl _ _ w.heap.size _ #[a, b, cc] _ _ _ _ rfl rfl rfl (hI.out.res.drew.row _) Try.underlying46 rfl info_item3) rfl ?_
    refine ⟨below_row hI.out.bel.drew (Nat.le_refl _) _, ?_⟩
    rw [hx]
    exact ⟨_, rfl, hI.out.sits.move _ _ _ (fun q h1 h2 => ⟨Nat.le_of_lt h1, hne q (by omega)⟩) (by simp)⟩
  · have g0 : w1.cell? ⟨w.heap.size + 1, 0, none⟩ = some (.slice s1 s2 s3) := hbad.cell 0
    have g1 : w1.cell? ⟨w.heap.size + 1, 1, none⟩ = some (.int .i64 k) := hbad.cell 1
    clear hbad
    go_wp2_with (refine wpList_store_row rfl 46 _ _ rfl w1.heap.size #[a, b, cc] rfl rfl _ _ (Blk.new w1 46 rowZ) info_item3 rfl (by simpa using h1) ?_; refine list_at (FirI w w.heap.size (w.heap.size + 1) w1.heap.size s1 s2 s3 k a b cc (fun _ => True)) (first_at hs2 hb1.out hbe1 g0 g1 trivial) ?_; clear g0 g1; intro w2 hI; have g0 := hI.s0; have g1 := hI.s1; replace hI := Lib.hid hI)
    refine wp_region_held_drew (S := (fun W => W.cell? ⟨w.heap.size + 1, 1, none⟩ = some (.int .i64 k))) (by kernel_rfl) (by exact hI.out.s1) (fun hS => ?_)
    (refine hTake (i := 0) (v := ?v9) rfl (by kernel_rfl) (by kernel_rfl) (by kernel_rfl) (fun _ _ _ h => h) (Or.inl ⟨by rfl, ?y9⟩) hS ?r9; (case y9 => (intro W hW; (go_simp); (try with_reducible rfl); done)); try simp only [Act.put, List.setIfInBounds_toArray, List.set_cons_zero, List.set_cons_succ])
    (refine hTake (i := 1) (v := ?v10) rfl (by kernel_rfl) (by kernel_rfl) (by kernel_rfl) (fun _ _ _ h => h) (Or.inl ⟨by rfl, ?y10⟩) hS ?r10; (case y10 => (intro W hW; (go_simp); (try with_reducible rfl); done)); try simp only [Act.put, List.setIfInBounds_toArray, List.set_cons_zero, List.set_cons_succ])
    (refine hTake (i := 2) (v := ?v11) rfl (by kernel_rfl) (by kernel_rfl) (by kernel_rfl) (fun _ _ _ h => h) (Or.inl ⟨by rfl, ?y11⟩) hS ?r11; (case y11 => (intro W hW; ((have g := hW; go_simp)); (try with_reducible rfl); done)); try simp only [Act.put, List.setIfInBounds_toArray, List.set_cons_zero, List.set_cons_succ])
    (refine hOne (i := 3) rfl (by kernel_rfl) (fun K hK => ?_))
    rw [if_pos (by rfl)]
    refine wp_store_row 46 _ _ rfl w.heap.size #[.bool false, .slice none 0 0, .slice none 0 0] rfl rfl _ _ hI.out.res.drew info_item3 rfl (by simp [Value.oneCell']) ?_
    have hne : ∀ q, q ≠ w.heap.size → (w2.drew.setRow w.heap.size #[.bool false, .slice none 0 0, .slice none 0 0]).heap[q]? = w2.drew.heap[q]? := fun q hq => setRow_other _ _ q _ hq
    (refine hK.out _ _ (by exact (World.cell?_of_block (a := ⟨_, _, none⟩) (hne _ (by show w.heap.size + 1 ≠ _; omega))).trans hI.out.s1) (fun hS => ?_); clear hK K; try simp only [Act.put, List.setIfInBounds_toArray, List.set_cons_zero, List.set_cons_succ])
    (refine hTake (i := 4) (v := ?v12) rfl (by kernel_rfl) (by kernel_rfl) (by kernel_rfl) (fun _ _ _ h => h) (Or.inl ⟨by rfl, ?y12⟩) hS ?r12; (case y12 => (intro W hW; (go_simp); (try with_reducible rfl); done)); try simp only [Act.put, List.setIfInBounds_toArray, List.set_cons_zero, List.set_cons_succ])
    (refine hTake (i := 5) (v := ?v13) rfl (by kernel_rfl) (by kernel_rfl) (by kernel_rfl) (fun _ _ _ h => h) (Or.inl ⟨by rfl, ?y13⟩) hS ?r13; (case y13 => (intro W hW; (go_simp); (try with_reducible rfl); done)); try simp only [Act.put, List.setIfInBounds_toArray, List.set_cons_zero, List.set_cons_succ])
    refine wpAnyH_done (by kernel_rfl) ?_ _
    go_wp2_with fail
    refine bodyPost_ret (v := .tuple #[itemZ, .int .i64 0, .int .i64 k]) (results_row_tmps rfl _ _ w.heap.size _ #[.bool false, .slice none 0 0, .slice none 0 0] _ _ _ _ rfl rfl rfl (hI.out.res.drew.row _) Try.underlying46 rfl info_item3) rfl ?_
    refine ⟨below_row hI.out.bel.drew (Nat.le_refl _) _, ?_⟩
    rw [hx]
    exact ⟨rfl, hk⟩
/-- what Decode answers -/
def DecQ (l : List UInt8) (w : World) (e : Ending) (w' : World) : Prop := Below w.heap.size w w' ∧ match Ns.dec l with
  | .ok x => ∃ v, e = .returned (.tuple #[v, .int .i64 0]) ∧ Sits (fun b => w.heap.size ≤ b) w' 9 v x
  | .error k => e = .returned (.tuple #[itemZ, .int .i64 k]) ∧ k ≠ 0
set_option maxHeartbeats 1000000 in
set_option maxRecDepth 100000 in
theorem nest_Decode (A : Option Addr) (n c : Nat) (l : List UInt8) (w : World) (h : Bytes w w.heap.size A n c l) :
    Calls Try.prog 24 #[.slice A n c] w (DecQ l w) := by
  have hf := nest_First A n c l _ ((h.alloc (Nat.le_refl _) (.cells rowZ 46)).more (show w.heap.size ≤ (w.alloc (.cells rowZ 46)).heap.size by simp))
  have hb0 : Blk (w.alloc (.cells rowZ 46)) w.heap.size 46 rowZ := Blk.new w _ _
  have hbe : Below w.heap.size w (w.alloc (.cells rowZ 46)) := (Below.refl _ _).alloc (Nat.le_refl _) _
  have hlen := h.len
  subst hlen
  clear h
  go_enter Try.func24, Try.ntmps24
  go_wp2_with fail
  refine hf.mono ?_
  rintro e w1 ⟨hbel, hq⟩
  have hs := hbel.size
  have hs0 : (w.alloc (.cells rowZ 46)).heap.size = w.heap.size + 1 := by simp
  have hb1 := hb0.below hbel (by omega)
  have hbe1 := hbe.trans (hbel.mono (by omega))
  clear hb0 hbe hbel hf
  cases hx : Ns.item 8 l with
  | error k =>
    rw [hx] at hq
    obtain ⟨rfl, hk⟩ := hq
    have hd := Lib.hid (show Ns.dec l = .error k by unfold Ns.dec; rw [hx])
    clear hx
    have hR : Blk ((w1.alloc (.cells rowZ 46)).setRow w1.heap.size #[.bool false, .slice none 0 0, .slice none 0 0]) w.heap.size 46 rowZ := (first_keep w1 _ _ (by omega)).trans hb1
    replace hR := Lib.hid hR
    clear hb1
    rw [show itemZ = .agg #[.bool false, .slice none 0 0, .slice none 0 0] from rfl]
    go_wp2_with (first
      | (refine wpList_store_row rfl 46 _ _ rfl w1.heap.size #[.bool false, .slice none 0 0, .slice none 0 0] rfl rfl _ _ (Blk.new w1 46 rowZ) info_item3 rfl (by simp [Value.oneCell']) ?_)
      | (refine wpList_load_row rfl 46 _ rfl w1.heap.size rfl _ _ _ _ ((Blk.new w1 46 rowZ).row #[.bool false, .slice none 0 0, .slice none 0 0]) Try.underlying46 rfl info_item3 ?_)
      | (refine wpList_store_row rfl 46 _ _ rfl w.heap.size #[.bool false, .slice none 0 0, .slice none 0 0] rfl rfl _ _ hR.out info_item3 rfl (by simp [Value.oneCell']) ?_))
    refine bodyPost_ret (v := .tuple #[itemZ, .int .i64 k]) (results_row_tmp rfl _ _ w.heap.size _ #[.bool false, .slice none 0 0, .slice none 0 0] _ _ _ rfl rfl (hR.out.row _) Try.underlying46 rfl info_item3) rfl ?_
    refine ⟨below_row (below_row (hbe1.alloc (by omega) _) (by omega) _) (Nat.le_refl _) _, ?_⟩
    rw [hd.out]
    exact ⟨rfl, hk⟩
  | ok p =>
    obtain ⟨x, r⟩ := p
    rw [hx] at hq
    obtain ⟨v, rfl, hv⟩ := hq
    have hlr := Ns.item_shorter hx
    obtain ⟨a, b, cc, rfl, _, h1⟩ := hv.cells
    have hR : Blk ((w1.alloc (.cells rowZ 46)).setRow w1.heap.size #[a, b, cc]) w.heap.size 46 rowZ := (first_keep w1 _ _ (by omega)).trans hb1
    replace hR := Lib.hid hR
    clear hb1
    replace hv := Lib.hid hv
    cases r with
    | nil =>
      have hd := Lib.hid (show Ns.dec l = .ok x by unfold Ns.dec; rw [hx])
      have hnl : ¬ ((l.length - ([] : List UInt8).length : Nat) : Int) < (l.length : Int) := by simp
      clear hx
      go_wp2_with (first
      | (refine wpList_store_row rfl 46 _ _ rfl w1.heap.size #[a, b, cc] rfl rfl _ _ (Blk.new w1 46 rowZ) info_item3 rfl (by simpa using h1) ?_)
      | (refine wpList_load_row rfl 46 _ rfl w1.heap.size rfl _ _ _ _ ((Blk.new w1 46 rowZ).row #[a, b, cc]) Try.underlying46 rfl info_item3 ?_)
      | (refine wpList_store_row rfl 46 _ _ rfl w.heap.size #[a, b, cc] rfl rfl _ _ hR.out info_item3 rfl (by simpa using h1) ?_))
      refine bodyPost_ret (v := .tuple #[.agg #[a, b, cc], .int .i64 0]) (results_row_tmp rfl _ _ w.heap.size _ #[a, b, cc] _ _ _ rfl rfl (hR.out.row _) Try.underlying46 rfl info_item3) rfl ?_
      refine ⟨below_row (below_row (hbe1.alloc (by omega) _) (by omega) _) (Nat.le_refl _) _, ?_⟩
      rw [hd.out]
      refine ⟨_, rfl, hv.out.move _ _ _ (fun q h1 h2 => ?_) (by simp)⟩
      rw [hs0] at h1
      exact ⟨by omega, (setRow_other _ _ q _ (by omega)).trans (first_keep w1 _ q h2)⟩
    | cons y r =>
      have hd := Lib.hid (show Ns.dec l = .error 24 by unfold Ns.dec; rw [hx])
      have hnl : ((l.length - (y :: r).length : Nat) : Int) < (l.length : Int) := by simp at hlr ⊢; omega
      clear hx
      go_wp2_with (first
      | (refine wpList_store_row rfl 46 _ _ rfl w1.heap.size #[a, b, cc] rfl rfl _ _ (Blk.new w1 46 rowZ) info_item3 rfl (by simpa using h1) ?_)
      | (refine wpList_load_row rfl 46 _ rfl w1.heap.size rfl _ _ _ _ ((Blk.new w1 46 rowZ).row #[a, b, cc]) Try.underlying46 rfl info_item3 ?_)
      | (refine wpList_store_row rfl 46 _ _ rfl w.heap.size #[.bool false, .slice none 0 0, .slice none 0 0] rfl rfl _ _ hR.out info_item3 rfl (by simp [Value.oneCell']) ?_))
      refine bodyPost_ret (v := .tuple #[itemZ, .int .i64 24]) (results_row_tmp rfl _ _ w.heap.size _ #[.bool false, .slice none 0 0, .slice none 0 0] _ _ _ rfl rfl (hR.out.row _) Try.underlying46 rfl info_item3) rfl ?_
      refine ⟨below_row (below_row (hbe1.alloc (by omega) _) (by omega) _) (Nat.le_refl _) _, ?_⟩
      rw [hd.out]
      exact ⟨rfl, by decide⟩
end Go.Proofs.YtahaaeenbahknaaRRRR
