import Derived.Test.YtioanppnkhiokaaDig1
import Derived.Test.YtioanppnkhiokaaMid
import Derived.WalkMore
namespace Go.Proofs.Ytioanppnkhiokaa
open Go.RowKit
attribute [go_sem] Dig.add_v Dig.xor_v

/-- block g is just these cells -/
def Blk (w : World) (g : Nat) (t : TypeId) (cs : Array Value) : Prop := w.heap[g]? = some (.cells cs t (0, 0))
section
variable {w w' : World} {g : Nat} {t : TypeId} {cs : Array Value}
theorem Blk.lt (h : Blk w g t cs) : g < w.heap.size := (Array.getElem?_eq_some_iff.1 h).1
theorem Blk.cell (h : Blk w g t cs) (i : Nat) : w.cell? ⟨g, i, none⟩ = cs[i]? := cell_of_row w g i cs t (0, 0) h
theorem Blk.frozen (h : Blk w g t cs) (i : Nat) : w.frozen? ⟨g, i, none⟩ = false := by
  unfold Blk at h
  simp [World.frozen?, h]
theorem Blk.new (w : World) (t : TypeId) (cs : Array Value) : Blk (w.alloc (.cells cs t)) w.heap.size t cs := heap_alloc_new w _
theorem Blk.new' {w : World} {g : Nat} {t : TypeId} {cs : Array Value} (hg : g = w.heap.size) : Blk (w.alloc (.cells cs t)) g t cs := by subst hg; exact heap_alloc_new w _
theorem Blk.drew (h : Blk w g t cs) : Blk w.drew g t cs := h
theorem Blk.alloc (h : Blk w g t cs) (o : Obj) : Blk (w.alloc o) g t cs := (Below.heap_alloc w o g h.lt).trans h
theorem Blk.set_ (h : Blk w g t cs) (i : Nat) (u : Value) : Blk (w.setCell ⟨g, i, none⟩ u) g t (cs.setIfInBounds i u) := by
  unfold Blk at h ⊢
  simp [World.setCell, Array.getElem?_modify, h]
theorem Blk.far (h : Blk w g t cs) {p : Addr} (hp : g ≠ p.block) (u : Value) : Blk (w.setCell p u) g t cs := (Below.heap_setCell w p u g hp).trans h
theorem Blk.below {B : Nat} (h : Blk w g t cs) (hb : Below B w w') (hg : g < B) : Blk w' g t cs := (hb.block g hg).trans h
theorem Blk.eq {cs' : Array Value} (h : Blk w g t cs) (e : cs = cs') : Blk w g t cs' := e ▸ h
end

/-- the first k of four words are of one row, the others of another -/
def Dig.fill (k : Nat) (x y : Dig.St) : Dig.St := ⟨if 0 < k then x.a else y.a, if 1 < k then x.b else y.b, if 2 < k then x.c else y.c, if 3 < k then x.d else y.d⟩
theorem row4_at (s : Dig.St) (k : Nat) (h : k < 4) : (row4 s)[k]? = some (.int .u64 (Dig.v (Dig.at4 s k))) := by
  match k, h with
  | 0, _ => rfl
  | 1, _ => rfl
  | 2, _ => rfl
  | 3, _ => rfl
theorem row4_fill (x y : Dig.St) (k : Nat) (h : k < 4) (z : UInt64) (hz : z = Dig.at4 x k) : (row4 (Dig.fill k x y)).setIfInBounds k (.int .u64 (Dig.v z)) = row4 (Dig.fill (k + 1) x y) := by
  subst hz
  match k, h with
  | 0, _ => rfl
  | 1, _ => rfl
  | 2, _ => rfl
  | 3, _ => rfl
theorem Dig.fill_at (x y : Dig.St) (k : Nat) (h : k < 4) : Dig.at4 (Dig.fill k x y) k = Dig.at4 y k := by
  match k, h with
  | 0, _ => rfl
  | 1, _ => rfl
  | 2, _ => rfl
  | 3, _ => rfl

theorem Blk.row {w : World} {g : Nat} {t : TypeId} {cs : Array Value} (h : Blk w g t cs) (cs' : Array Value) : Blk (w.setRow g cs') g t cs' := setRow_heap w g cs cs' t _ h
theorem Blk.row_far {w : World} {g g' : Nat} {t : TypeId} {cs : Array Value} (h : Blk w g t cs) (cs' : Array Value) (hg : g ≠ g') : Blk (w.setRow g' cs') g t cs := (setRow_other w g' g cs' hg).trans h
theorem below_row {a w : World} {B g : Nat} (h : Below B a w) (hg : B ≤ g) (cs : Array Value) : Below B a (w.setRow g cs) :=
  h.trans ⟨rfl, rfl, rfl, by simp, fun k hk => setRow_other w g k cs (by omega)⟩
theorem info_state : (Try.prog.info? 100).map (·.size) = some 4 := by kernel_rfl
theorem row4_one (s : Dig.St) : (row4 s).all (·.oneCell') = true :=
  Array.all_eq_true_iff_forall_mem.2 (by intro u hu; simp [row4] at hu; rcases hu with rfl | rfl | rfl | rfl <;> rfl)
/-- a row of words is stored -/
theorem store_row4 {w : World} {ops : Array Oper} {rest : List Oper} {o : Oper} {a : Act} {Q : Exit → Act → World → Prop} (hgd : o.guard = none) (x y : Operand) (ho : o.op = .store 100 x y)
    (g : Nat) (s : Dig.St) (hx : a.eval x = .pointer (some ⟨g, 0, none⟩)) (hy : a.eval y = .agg (row4 s)) (old : Array Value) (hg : Blk w g 100 old) (hold : old.size = 4)
    (h : wpList Try.prog ops Q rest (a.put o.dst undef) (w.setRow g (row4 s))) : wpList Try.prog ops Q (o :: rest) a w :=
  wpList_store_row hgd 100 x y ho g (row4 s) hx hy _ old hg info_state hold (row4_one s) h
theorem load_row4 {w : World} {ops : Array Oper} {rest : List Oper} {o : Oper} {a : Act} {Q : Exit → Act → World → Prop} (hgd : o.guard = none) (x : Operand) (ho : o.op = .load 100 x)
    (g : Nat) (s : Dig.St) (hx : a.eval x = .pointer (some ⟨g, 0, none⟩)) (hg : Blk w g 100 (row4 s))
    (h : wpList Try.prog ops Q rest (a.put o.dst (.agg (row4 s))) w) : wpList Try.prog ops Q (o :: rest) a w :=
  wpList_load_row hgd 100 x ho g hx _ (row4 s) _ _ hg Try.underlying100 rfl info_state h
theorem row4_size (s : Dig.St) : (row4 s).size = 4 := rfl

/-- the first loop of a piece: so many words are in -/
def MixA (w : World) (s m : Dig.St) (k : Nat) (wr : World) : Prop :=
  Blk wr w.heap.size 100 (row4 (Dig.fill k (Dig.xor4 s m) s)) ∧ Blk wr (w.heap.size + 1) 100 (row4 ⟨0, 0, 0, 0⟩) ∧ Blk wr (w.heap.size + 1 + 1) 100 (row4 s) ∧
  Blk wr (w.heap.size + 1 + 1 + 1) 99 (row4 (Dig.fill k m ⟨0, 0, 0, 0⟩)) ∧ Below w.heap.size w wr
theorem Bytes.cut {w : World} {B n c k : Nat} {A : Option Addr} {l : List UInt8} {g o : Nat} (h : Bytes w B A n c l) (hA : A = some ⟨g, o, none⟩) (hk : k < n) :
    Bytes w B (some ⟨g, o + k, none⟩) (n - k) (c - k) (l.drop k) := by
  obtain ⟨h1, h2, h3, h4⟩ := h
  refine ⟨by rw [List.length_drop]; omega, by omega, by omega, ?_⟩
  have := h4.cut (k := k) (cap := c) (by omega) h2
  rw [if_neg (by omega), hA] at this
  rw [bv, List.map_drop]
  simpa [add_mk, bv] using this
theorem Dig.xor4_at (x y : Dig.St) (k : Nat) (h : k < 4) : Dig.at4 (Dig.xor4 x y) k = Dig.at4 x k ^^^ Dig.at4 y k := by
  match k, h with
  | 0, _ => rfl
  | 1, _ => rfl
  | 2, _ => rfl
  | 3, _ => rfl
/-- the rounds of a piece: so many are done -/
def MixB (w : World) (m s : Dig.St) (r : Nat) (s' : Dig.St) (K : UInt64) (wr : World) : Prop :=
  Dig.rounds (Dig.words m) (Dig.xor4 s m) Dig.golden = Dig.rounds ((Dig.words m).drop r) s' K ∧
  Blk wr w.heap.size 100 (row4 s') ∧ Blk wr (w.heap.size + 1) 100 (row4 ⟨0, 0, 0, 0⟩) ∧ Blk wr (w.heap.size + 1 + 1) 100 (row4 s) ∧
  Blk wr (w.heap.size + 1 + 1 + 1) 99 (row4 m) ∧ Below w.heap.size w wr
def MixC (w : World) (m s s' : Dig.St) (wr : World) : Prop :=
  Blk wr w.heap.size 100 (row4 s') ∧ Blk wr (w.heap.size + 1) 100 (row4 ⟨0, 0, 0, 0⟩) ∧ Blk wr (w.heap.size + 1 + 1) 100 (row4 s) ∧
  Blk wr (w.heap.size + 1 + 1 + 1) 99 (row4 m) ∧ Below w.heap.size w wr
/-- the last loop of a piece -/
def MixD (w : World) (s s' : Dig.St) (k : Nat) (wr : World) : Prop :=
  Blk wr w.heap.size 100 (row4 (Dig.fill k (Dig.xor4 s' s) s')) ∧ Blk wr (w.heap.size + 1) 100 (row4 ⟨0, 0, 0, 0⟩) ∧ Blk wr (w.heap.size + 1 + 1) 100 (row4 s) ∧ Below w.heap.size w wr
theorem calls_at {P : Program} {f : FuncId} {args : Array Value} {w : World} {post : Ending → World → Prop} (I : World → Prop) (hI : I w) (h : ∀ w2, I w2 → Calls P f args w2 post) : Calls P f args w post := h w hI
theorem Dig.at_piece (l : List UInt8) (k : Nat) (h : k < 4) : Dig.word ((l.drop (8 * k)).take 8) = Dig.at4 (Dig.piece l) k := by
  match k, h with
  | 0, _ => rfl
  | 1, _ => rfl
  | 2, _ => rfl
  | 3, _ => rfl

set_option maxHeartbeats 2000000 in
set_option maxRecDepth 100000 in
theorem dig_mixed (s : Dig.St) (l : List UInt8) (A : Option Addr) (n c B : Nat) (w : World) (h : Bytes w B A n c l) (hl : l.length = 32) (hB : B ≤ w.heap.size) :
    Calls Try.prog 47 #[.agg (row4 s), .slice A n c] w fun e w' => e = .returned (.agg (row4 (Dig.mixed s l))) ∧ Below w.heap.size w w' := by
  have hlen := h.len
  have hcap := h.cap
  rw [hl] at hlen
  subst hlen
  obtain ⟨g, o, rfl, hgB, _⟩ := h.at_ (k := 0) (by omega)
  replace h := Lib.hid h
  go_enter Try.func47, Try.ntmps47
  go_wp2_with fail
  go_step3
  go_wp2_with (first
    | (refine load_row4 rfl _ rfl _ _ rfl (Blk.alloc (Blk.new _ _ _) _) ?_)
    | (refine store_row4 rfl _ _ rfl _ _ rfl rfl _ (Blk.new' (by simp)) rfl ?_))
  go_loopw [12] (fun i wr => ∃ k : Nat, k ≤ 4 ∧ i = .int .i64 k ∧ MixA w s (Dig.piece l) k wr) (fun i _ => 4 - (intOf i).toNat)
  case atStart =>
    refine ⟨0, Nat.zero_le _, rfl, ?_, ?_, ?_, ?_, ?_⟩
    · exact ((((Blk.new w _ _).alloc _).alloc _).row_far _ (by omega)).alloc _
    · exact (Blk.eq ((((Blk.new' (by simp)).alloc _).row_far _ (by omega)).alloc _) rfl)
    · exact ((Blk.new' (by simp)).row _).alloc _
    · exact Blk.eq (Blk.new' (by simp)) rfl
    · exact Below.alloc (below_row (Below.alloc (Below.alloc (Below.alloc (Below.refl _ _) (by simp <;> omega) _) (by simp <;> omega) _) (by simp <;> omega) _) (by omega) _) (by simp; omega) _
  case round =>
    obtain ⟨k, hk, rfl, h0, h1, h2, h3, hbel⟩ := hrel
    have hgN : g < w.heap.size := by omega
    by_cases hlt : k < 4
    · replace h0 := Lib.hid h0
      replace h1 := Lib.hid h1
      replace h2 := Lib.hid h2
      replace h3 := Lib.hid h3
      have hi : IntKind.i64.wrap (8 * (k : Int)) = 8 * (k : Int) := by simp [IntKind.wrap, IntKind.bits, IntKind.signed]; omega
      have hi2 : (8 * (k : Int)).toNat = 8 * k := by omega
      have hi3 : (c : Int) ≠ 8 * (k : Int) := by omega
      have c3 := (h3.out.cell k).trans (row4_at _ k hlt)
      have f3 := h3.out.frozen k
      go_wp2_with fail
      refine (dig_word (l.drop (8 * k)) _ _ _ _ wr (((h.out.more hB).below hbel).cut rfl (by omega)) (by simp; omega)).mono ?_
      rintro _ _ ⟨rfl, rfl⟩
      rw [Dig.at_piece l k hlt]
      go_wp2_with fail
      have n0 := h0.out.far (p := ⟨w.heap.size + 1 + 1 + 1, k, none⟩) (by simp; omega) (.int .u64 (Dig.v (Dig.at4 (Dig.piece l) k)))
      have n1 := h1.out.far (p := ⟨w.heap.size + 1 + 1 + 1, k, none⟩) (by simp) (.int .u64 (Dig.v (Dig.at4 (Dig.piece l) k)))
      have n2 := h2.out.far (p := ⟨w.heap.size + 1 + 1 + 1, k, none⟩) (by simp) (.int .u64 (Dig.v (Dig.at4 (Dig.piece l) k)))
      have n3 := (h3.out.set_ k (.int .u64 (Dig.v (Dig.at4 (Dig.piece l) k)))).eq (row4_fill _ _ k hlt _ rfl)
      have nb := hbel.setCell (p := ⟨w.heap.size + 1 + 1 + 1, k, none⟩) (by simp; omega) (.int .u64 (Dig.v (Dig.at4 (Dig.piece l) k)))
      clear c3 f3 h0 h1 h2 h3 hbel
      generalize wr.setCell ⟨w.heap.size + 1 + 1 + 1, k, none⟩ (.int .u64 (Dig.v (Dig.at4 (Dig.piece l) k))) = w2 at *
      have c0 := (n0.cell k).trans (row4_at _ k hlt)
      rw [Dig.fill_at _ _ k hlt] at c0
      have f0 := n0.frozen k
      have c3 := (n3.cell k).trans (row4_at _ k hlt)
      have hx : Dig.at4 (Dig.fill (k + 1) (Dig.piece l) ⟨0, 0, 0, 0⟩) k = Dig.at4 (Dig.piece l) k := by
        match k, hlt with
        | 0, _ => rfl
        | 1, _ => rfl
        | 2, _ => rfl
        | 3, _ => rfl
      rw [hx] at c3
      replace n0 := Lib.hid n0
      replace n1 := Lib.hid n1
      replace n2 := Lib.hid n2
      replace n3 := Lib.hid n3
      clear hx
      go_still_tail 8, (by kernel_rfl)
      change wpList _ _ _ _ _ w2.drew
      go_wp2_with fail
      refine ⟨⟨k + 1, by omega, by go_num, ?_, ?_, ?_, ?_, ?_⟩, ?_⟩
      · exact ((n0.out.set_ k _).eq (row4_fill (Dig.xor4 s (Dig.piece l)) s k hlt _ (Dig.xor4_at _ _ k hlt).symm)).drew
      · exact (n1.out.far (by simp) _).drew
      · exact (n2.out.far (by simp; omega) _).drew
      · exact (n3.out.far (by simp; omega) _).drew
      · exact (nb.setCell (Nat.le_refl _) _).drew
      · simp [intOf]; omega
    · obtain rfl : k = 4 := by omega
      replace h0 := h0.eq (cs' := row4 (Dig.xor4 s (Dig.piece l))) rfl
      replace h3 := h3.eq (cs' := row4 (Dig.piece l)) rfl
      replace h0 := Lib.hid h0
      replace h1 := Lib.hid h1
      replace h2 := Lib.hid h2
      replace h3 := Lib.hid h3
      go_wp2_with fail
      go_step3
      go_wp2_with fail
      have hgold : (11400714819323198485 : Int) = Dig.v Dig.golden := by decide
      rw [hgold]
      go_loopw [8, 9] (fun kv rv wx => ∃ (r : Nat) (s' : Dig.St) (K : UInt64), r < 8 ∧ kv = .int .u64 (Dig.v K) ∧ rv = .int .i64 r ∧ MixB w (Dig.piece l) s r s' K wx) (fun _ rv _ => 8 - (intOf rv).toNat)
      case atStart => exact ⟨0, Dig.xor4 s (Dig.piece l), Dig.golden, by omega, rfl, rfl, ⟨rfl, h0.out, h1.out, h2.out, h3.out, hbel⟩⟩
      case round =>
        clear h0 h1 h2 h3 hbel
        obtain ⟨r, s', K, hr8, rfl, rfl, hro, h0, h1, h2, h3, hbel⟩ := hrel
        rw [Dig.rounds_step _ _ _ r hr8] at hro
        have c0 : _ = some (Value.int .u64 (Dig.v s'.a)) := h0.cell 0
        have c1 : _ = some (Value.int .u64 (Dig.v s'.b)) := h0.cell 1
        have c2 : _ = some (Value.int .u64 (Dig.v s'.c)) := h0.cell 2
        have c3 : _ = some (Value.int .u64 (Dig.v s'.d)) := h0.cell 3
        have f0 := h0.frozen 0
        have f1 := h0.frozen 1
        have f2 := h0.frozen 2
        have f3 := h0.frozen 3
        have d0 := (h3.cell (r % 4)).trans (row4_at _ (r % 4) (by omega))
        replace h0 := Lib.hid h0
        replace h1 := Lib.hid h1
        replace h2 := Lib.hid h2
        replace h3 := Lib.hid h3
        replace hro := Lib.hid hro
        have q1 : (r : Int).tmod 4 = (r : Int) % 4 := Int.tmod_eq_emod_of_nonneg (by omega)
        have q2 : (r : Int) % 4 < 4 := by omega
        have q3 : ((r : Int) % 4).toNat = r % 4 := by omega
        have q4 : 0 ≤ (r : Int) % 4 := by omega
        go_wp2_with fail
        go_still_tail 13, (by kernel_rfl)
        change wpList _ _ _ _ _ wr.drew
        go_wp2_with fail
        refine calls_at (MixC w (Dig.piece l) s ⟨s'.a + (s'.b + Dig.at4 (Dig.piece l) (r % 4) + K), s'.b, s'.c, s'.d⟩) ⟨by (apply Blk.eq; (repeat (first | with_reducible apply Blk.set_ | with_reducible apply Blk.drew | with_reducible exact h0.out)); rfl), by (repeat (first | with_reducible refine Blk.drew ?_ | (with_reducible refine Blk.far ?_ (by simp <;> omega) _) | with_reducible exact h1.out)), by (repeat (first | with_reducible refine Blk.drew ?_ | (with_reducible refine Blk.far ?_ (by simp <;> omega) _) | with_reducible exact h2.out)), by (repeat (first | with_reducible refine Blk.drew ?_ | (with_reducible refine Blk.far ?_ (by simp <;> omega) _) | with_reducible exact h3.out)), by (repeat (first | with_reducible refine Below.drew ?_ | (with_reducible refine Below.setCell ?_ (by simp <;> omega) _) | with_reducible exact hbel))⟩ ?_
        clear h0 h1 h2 h3 hbel c0 c1 c2 c3 f0 f1 f2 f3 d0
        generalize ha1 : s'.a + (s'.b + Dig.at4 (Dig.piece l) (r % 4) + K) = a1
        rintro wn ⟨n0, n1, n2, n3, hbel⟩
        have c0 : _ = some (Value.int .u64 (Dig.v a1)) := n0.cell 0
        have c1 : _ = some (Value.int .u64 (Dig.v s'.b)) := n0.cell 1
        have c2 : _ = some (Value.int .u64 (Dig.v s'.c)) := n0.cell 2
        have c3 : _ = some (Value.int .u64 (Dig.v s'.d)) := n0.cell 3
        have f0 := n0.frozen 0
        have f1 := n0.frozen 1
        have f2 := n0.frozen 2
        have f3 := n0.frozen 3
        replace n0 := Lib.hid n0
        replace n1 := Lib.hid n1
        replace n2 := Lib.hid n2
        replace n3 := Lib.hid n3
        refine (dig_rot32 _ _).mono ?_
        rintro _ _ ⟨rfl, rfl⟩
        go_wp2_with fail
        refine calls_at (MixC w (Dig.piece l) s ⟨a1, s'.b, s'.c + Dig.rot (s'.d ^^^ a1) 32, Dig.rot (s'.d ^^^ a1) 32⟩) ⟨by (apply Blk.eq; (repeat (first | with_reducible apply Blk.set_ | with_reducible apply Blk.drew | with_reducible exact n0.out)); rfl), by (repeat (first | with_reducible refine Blk.drew ?_ | (with_reducible refine Blk.far ?_ (by simp <;> omega) _) | with_reducible exact n1.out)), by (repeat (first | with_reducible refine Blk.drew ?_ | (with_reducible refine Blk.far ?_ (by simp <;> omega) _) | with_reducible exact n2.out)), by (repeat (first | with_reducible refine Blk.drew ?_ | (with_reducible refine Blk.far ?_ (by simp <;> omega) _) | with_reducible exact n3.out)), by (repeat (first | with_reducible refine Below.drew ?_ | (with_reducible refine Below.setCell ?_ (by simp <;> omega) _) | with_reducible exact hbel))⟩ ?_
        clear n0 n1 n2 n3 hbel c0 c1 c2 c3 f0 f1 f2 f3
        generalize hd1 : Dig.rot (s'.d ^^^ a1) 32 = d1
        generalize he1 : s'.c + d1 = e1
        rintro wn ⟨n0, n1, n2, n3, hbel⟩
        have c0 : _ = some (Value.int .u64 (Dig.v a1)) := n0.cell 0
        have c1 : _ = some (Value.int .u64 (Dig.v s'.b)) := n0.cell 1
        have c2 : _ = some (Value.int .u64 (Dig.v e1)) := n0.cell 2
        have c3 : _ = some (Value.int .u64 (Dig.v d1)) := n0.cell 3
        have f0 := n0.frozen 0
        have f1 := n0.frozen 1
        have f2 := n0.frozen 2
        have f3 := n0.frozen 3
        replace n0 := Lib.hid n0
        replace n1 := Lib.hid n1
        replace n2 := Lib.hid n2
        replace n3 := Lib.hid n3
        refine (dig_rot24 _ _).mono ?_
        rintro _ _ ⟨rfl, rfl⟩
        go_wp2_with fail
        refine calls_at (MixC w (Dig.piece l) s ⟨a1 + Dig.rot (s'.b ^^^ e1) 24, Dig.rot (s'.b ^^^ e1) 24, e1, d1⟩) ⟨by (apply Blk.eq; (repeat (first | with_reducible apply Blk.set_ | with_reducible apply Blk.drew | with_reducible exact n0.out)); rfl), by (repeat (first | with_reducible refine Blk.drew ?_ | (with_reducible refine Blk.far ?_ (by simp <;> omega) _) | with_reducible exact n1.out)), by (repeat (first | with_reducible refine Blk.drew ?_ | (with_reducible refine Blk.far ?_ (by simp <;> omega) _) | with_reducible exact n2.out)), by (repeat (first | with_reducible refine Blk.drew ?_ | (with_reducible refine Blk.far ?_ (by simp <;> omega) _) | with_reducible exact n3.out)), by (repeat (first | with_reducible refine Below.drew ?_ | (with_reducible refine Below.setCell ?_ (by simp <;> omega) _) | with_reducible exact hbel))⟩ ?_
        clear n0 n1 n2 n3 hbel c0 c1 c2 c3 f0 f1 f2 f3
        generalize hb1 : Dig.rot (s'.b ^^^ e1) 24 = b1
        generalize ha2 : a1 + b1 = a2
        rintro wn ⟨n0, n1, n2, n3, hbel⟩
        have c0 : _ = some (Value.int .u64 (Dig.v a2)) := n0.cell 0
        have c1 : _ = some (Value.int .u64 (Dig.v b1)) := n0.cell 1
        have c2 : _ = some (Value.int .u64 (Dig.v e1)) := n0.cell 2
        have c3 : _ = some (Value.int .u64 (Dig.v d1)) := n0.cell 3
        have f0 := n0.frozen 0
        have f1 := n0.frozen 1
        have f2 := n0.frozen 2
        have f3 := n0.frozen 3
        replace n0 := Lib.hid n0
        replace n1 := Lib.hid n1
        replace n2 := Lib.hid n2
        replace n3 := Lib.hid n3
        refine (dig_rot16 _ _).mono ?_
        rintro _ _ ⟨rfl, rfl⟩
        go_wp2_with fail
        refine calls_at (MixC w (Dig.piece l) s ⟨a2, b1, e1 + Dig.rot (d1 ^^^ a2) 16, Dig.rot (d1 ^^^ a2) 16⟩) ⟨by (apply Blk.eq; (repeat (first | with_reducible apply Blk.set_ | with_reducible apply Blk.drew | with_reducible exact n0.out)); rfl), by (repeat (first | with_reducible refine Blk.drew ?_ | (with_reducible refine Blk.far ?_ (by simp <;> omega) _) | with_reducible exact n1.out)), by (repeat (first | with_reducible refine Blk.drew ?_ | (with_reducible refine Blk.far ?_ (by simp <;> omega) _) | with_reducible exact n2.out)), by (repeat (first | with_reducible refine Blk.drew ?_ | (with_reducible refine Blk.far ?_ (by simp <;> omega) _) | with_reducible exact n3.out)), by (repeat (first | with_reducible refine Below.drew ?_ | (with_reducible refine Below.setCell ?_ (by simp <;> omega) _) | with_reducible exact hbel))⟩ ?_
        clear n0 n1 n2 n3 hbel c0 c1 c2 c3 f0 f1 f2 f3
        generalize hd2 : Dig.rot (d1 ^^^ a2) 16 = d2
        generalize he2 : e1 + d2 = e2
        rintro wn ⟨n0, n1, n2, n3, hbel⟩
        have c0 : _ = some (Value.int .u64 (Dig.v a2)) := n0.cell 0
        have c1 : _ = some (Value.int .u64 (Dig.v b1)) := n0.cell 1
        have c2 : _ = some (Value.int .u64 (Dig.v e2)) := n0.cell 2
        have c3 : _ = some (Value.int .u64 (Dig.v d2)) := n0.cell 3
        have f0 := n0.frozen 0
        have f1 := n0.frozen 1
        have f2 := n0.frozen 2
        have f3 := n0.frozen 3
        replace n0 := Lib.hid n0
        replace n1 := Lib.hid n1
        replace n2 := Lib.hid n2
        replace n3 := Lib.hid n3
        refine (dig_rot63 _ _).mono ?_
        rintro _ _ ⟨rfl, rfl⟩
        have hro := hro.out
        rw [show Dig.round s' (Dig.at4 (Dig.piece l) (r % 4)) K = ⟨Dig.rot (b1 ^^^ e2) 63, e2, d2, a2⟩ by subst ha1 hd1 he1 hb1 ha2 hd2 he2; rfl] at hro
        rcases Nat.lt_or_ge r 7 with h7 | h7
        · have q5 : ¬ (r : Int) + 1 = 8 := by omega
          replace hro := Lib.hid hro
          go_wp2_with fail
          go_roundw
          case rel =>
            (repeat apply Exists.intro)
            refine ⟨⟨r + 1, ⟨Dig.rot (b1 ^^^ e2) 63, e2, d2, a2⟩, K + Dig.golden, by omega, rfl, by go_num, hro.out, ?_, ?_, ?_, ?_, ?_⟩, rfl⟩
            · (apply Blk.eq; (repeat (first | with_reducible apply Blk.set_ | with_reducible apply Blk.drew | with_reducible exact n0.out)); rfl)
            · (repeat (first | with_reducible refine Blk.drew ?_ | (with_reducible refine Blk.far ?_ (by simp <;> omega) _) | with_reducible exact n1.out))
            · (repeat (first | with_reducible refine Blk.drew ?_ | (with_reducible refine Blk.far ?_ (by simp <;> omega) _) | with_reducible exact n2.out))
            · (repeat (first | with_reducible refine Blk.drew ?_ | (with_reducible refine Blk.far ?_ (by simp <;> omega) _) | with_reducible exact n3.out))
            · (repeat (first | with_reducible refine Below.drew ?_ | (with_reducible refine Below.setCell ?_ (by simp <;> omega) _) | with_reducible exact hbel))
          case measure => simp [intOf]; omega
        · obtain rfl : r = 7 := by omega
          have hend : Dig.mixed s l = Dig.xor4 ⟨Dig.rot (b1 ^^^ e2) 63, e2, d2, a2⟩ s := by
            unfold Dig.mixed
            rw [hro]; rfl
          clear hro
          replace hend := Lib.hid hend
          go_wp2_with fail
          go_loopw [105] (fun i wy => ∃ k : Nat, k ≤ 4 ∧ i = .int .i64 k ∧ MixD w s ⟨Dig.rot (b1 ^^^ e2) 63, e2, d2, a2⟩ k wy) (fun i _ => 4 - (intOf i).toNat)
          case atStart =>
            refine ⟨0, Nat.zero_le _, rfl, ?_, ?_, ?_, ?_⟩
            · (apply Blk.eq; (repeat (first | with_reducible apply Blk.set_ | with_reducible apply Blk.drew | with_reducible exact n0.out)); rfl)
            · (repeat (first | with_reducible refine Blk.drew ?_ | (with_reducible refine Blk.far ?_ (by simp <;> omega) _) | with_reducible exact n1.out))
            · (repeat (first | with_reducible refine Blk.drew ?_ | (with_reducible refine Blk.far ?_ (by simp <;> omega) _) | with_reducible exact n2.out))
            · (repeat (first | with_reducible refine Below.drew ?_ | (with_reducible refine Below.setCell ?_ (by simp <;> omega) _) | with_reducible exact hbel))
          case round =>
            clear n0 n1 n2 n3 hbel c0 c1 c2 c3 f0 f1 f2 f3 q1 q2 q3 q4 ha1 hd1 he1 hb1 ha2 hd2 he2 hgold
            replace hend := hend.out
            generalize (⟨Dig.rot (b1 ^^^ e2) 63, e2, d2, a2⟩ : Dig.St) = S2 at *
            replace hend := Lib.hid hend
            obtain ⟨k, hk, rfl, h0, h1, h2, hbel⟩ := hrel
            by_cases hlt : k < 4
            · have c0 := (h0.cell k).trans (row4_at _ k hlt)
              rw [Dig.fill_at _ _ k hlt] at c0
              have f0 := h0.frozen k
              have c2 := (h2.cell k).trans (row4_at _ k hlt)
              replace h0 := Lib.hid h0
              replace h1 := Lib.hid h1
              replace h2 := Lib.hid h2
              go_wp2_with fail
              go_still_tail 8, (by kernel_rfl)
              change wpList _ _ _ _ _ wr.drew
              go_wp2_with fail
              refine ⟨⟨k + 1, by omega, by go_num, ?_, ?_, ?_, ?_⟩, ?_⟩
              · exact ((h0.out.set_ k _).eq (row4_fill (Dig.xor4 S2 s) S2 k hlt _ (Dig.xor4_at _ _ k hlt).symm)).drew
              · exact (h1.out.far (by simp) _).drew
              · exact (h2.out.far (by simp; omega) _).drew
              · exact (hbel.setCell (Nat.le_refl _) _).drew
              · simp [intOf]; omega
            · obtain rfl : k = 4 := by omega
              replace h0 := h0.eq (cs' := row4 (Dig.xor4 S2 s)) rfl
              replace h0 := Lib.hid h0
              replace h1 := Lib.hid h1
              clear h2
              go_wp2_with (first
                | (refine load_row4 rfl _ rfl _ _ rfl h0.out ?_)
                | (refine store_row4 rfl _ _ rfl _ _ rfl rfl _ h1.out rfl ?_))
              rw [Exit.noGoto_ret]
              refine bodyPost_ret (v := .agg (row4 (Dig.xor4 S2 s))) (results_cell_row rfl _ _ (w.heap.size + 1) _ _ _ _ rfl (h1.out.row _) Try.underlying100 rfl info_state) rfl ⟨by rw [hend.out], ?_⟩
              exact below_row hbel (by omega) _
end Go.Proofs.Ytioanppnkhiokaa
