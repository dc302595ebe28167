/-
  Texts of a proof, one behind the other: Law05c.
-/
import Derived.Test.YtahaaeenbahknaaRRRRNodeShortA4
/-
  The laws of chapter 05: NodeShort.
-/
namespace Go.Proofs.YtahaaeenbahknaaRRRR
open Go.RowKit

namespace Nd
theorem right_refs {x : No} (h : right dec x = true) (r : Rf) (hr : r ∈ refs x) (h1 : r.kind = 1) : rightRef dec r = true := by
  rcases List.mem_cons.1 hr with rfl | hr
  · rcases right_kind h with hk | hk | hk
    · obtain ⟨_, _, _, _, hn, _⟩ := right_leaf h hk
      rw [none_eq hn] at h1
      cases h1
    · exact (right_ext h hk).2.2.2.2.2.1
    · obtain ⟨_, _, hn, _, _⟩ := right_branch h hk
      rw [none_eq hn] at h1
      cases h1
  · rcases right_kind h with hk | hk | hk
    · obtain ⟨_, _, _, _, _, h0⟩ := right_leaf h hk
      rw [List.eq_nil_of_length_eq_zero h0] at hr
      cases hr
    · obtain ⟨_, _, _, _, h0, _⟩ := right_ext h hk
      rw [List.eq_nil_of_length_eq_zero h0] at hr
      cases hr
    · exact (right_branch h hk).2.2.2.2 r hr
theorem right_kids {x : No} (h : right dec x = true) : x.kids.length ≤ 16 := by
  rcases right_kind h with hk | hk | hk
  · obtain ⟨_, _, _, _, _, h0⟩ := right_leaf h hk; omega
  · obtain ⟨_, _, _, _, h0, _⟩ := right_ext h hk; omega
  · have := (right_branch h hk).2.2.2.1; omega
theorem enc_itOf {r : Rf} (hd : r.dig.length = 32) (h : rightRef dec r = true) (h1 : r.kind = 1) : Ns.enc 8 (itOf r) = r.inl := by
  have h2 := (refOf_itOf r hd h).1
  cases hl : isList (itOf r) with
  | true =>
    rw [refOf_list hl] at h2
    have := congrArg (fun p => p.1.inl) h2
    simpa using this
  | false =>
    exfalso
    unfold refOf at h2
    rw [if_neg (by rw [hl]; simp)] at h2
    split at h2
    · have := congrArg (fun p => p.1.kind) h2
      simp [rf0] at this
      omega
    · split at h2
      · have := congrArg (fun p => p.1.kind) h2
        simp at this
        omega
      · have := congrArg (fun p => p.2) h2
        simp at this
/-- a branch that has a branch inline is of 32 bytes or more -/
theorem long_branch {x m : No} {r : Rf} (hw : wf x) (h : right dec x = true) (hk : x.kind = 3) (hr : r ∈ refs x) (h1 : r.kind = 1) (hm : dec r.inl = some m) (hmk : m.kind = 3) : 32 ≤ (enc x).length := by
  have h18 := branch_long hm hmk
  have hrr := right_refs h r hr h1
  have hei := enc_itOf (hw r hr) hrr h1
  have hkid : r ∈ x.kids := by
    rcases List.mem_cons.1 hr with rfl | hr
    · obtain ⟨_, _, hn, _, _⟩ := right_branch h hk
      rw [none_eq hn] at h1
      cases h1
    · exact hr
  have hits : items x = x.kids.map itOf ++ [Ns.tx x.value] := by
    unfold items
    rw [if_neg (by omega), if_neg (by omega)]
  have hmem : itOf r ∈ items x := by rw [hits]; simp; exact .inl ⟨r, hkid, rfl⟩
  have hlen : (items x).length = 17 := by rw [hits, List.length_append, List.length_map, (right_branch h hk).2.2.2.1]; rfl
  have h2 := Ns.flat_mem (items x) (itOf r) hmem
  have h3 := enc_item_eq (items x)
  have h4 : (enc x).length = (Ns.head 192 ((items x).flatMap (Ns.enc 8)).length).length + ((items x).flatMap (Ns.enc 8)).length := by
    show (Ns.enc 9 (.inr (items x))).length = _
    rw [h3, List.length_append]
  rw [hei, hlen] at h2
  omega
end Nd
theorem flat_one_refs {S : Nat → Prop} {w : World} {vs : List Value} {rs : List Nd.Rf} (h : All2 (RefIn S w) vs rs) : ∀ u ∈ flat vs, u.oneCell' = true :=
  flat_one_cell h fun v x hx => by
    obtain ⟨A, n, c, rfl, _⟩ := hx
    exact refCells_one _ _ _ _ _
theorem All2.cons {α : Type} {R : Value → α → Prop} {v : Value} {x : α} {vs : List Value} {xs : List α} (h : R v x) (hs : All2 R vs xs) : All2 R (v :: vs) (x :: xs) :=
  ⟨by simp [hs.1], fun i y hy => by
    cases i with
    | zero => simp at hy; subst hy; exact ⟨v, rfl, h⟩
    | succ i => exact hs.2 i y (by simpa using hy)⟩
theorem Blk.range0 {w : World} {g : Nat} {t : TypeId} {cs : List Value} (h : Blk w g t cs.toArray) : w.rangeAt g 0 cs := fun j u hu => by
  rw [Nat.zero_add, h.cell j, List.getElem?_toArray]; exact hu
/-- 'append([]api.Ref{r}, rs...)' -/
theorem wpList_append_refs {ops : Array Oper} {rest : List Oper} {o : Oper} {a : Act} {w : World} {Q : Exit → Act → World → Prop} {g n1 c1 n c B m : Nat} {k : Int} {d : List UInt8} {A1 A : Option Addr} {vs : List Value} (hgd : o.guard = none) (s y : Operand)
    (ho : o.op = .call { callee := .builtin .append, args := #[s, y], argTypes := #[27, 27] })
    (hs : a.eval s = .slice (some ⟨g, 0, none⟩) 1 1) (hb : Blk w g 26 (refRow k d A1 n1 c1)) (hd : d.length = 32) (hy : a.eval y = .slice A n c) (hr : Reads w B 34 A n (flat vs)) (h1 : ∀ u ∈ flat vs, u.oneCell' = true) (hn : n ≤ 1000) (hm : m = 1 + n)
    (H : ∀ A' c' w', Own w' g 26 34 A' m c' (flat (.agg (refRow k d A1 n1 c1) :: vs)) → w.grownBy w' (some g) → wpList Try.prog ops Q rest (a.put o.dst (.slice A' m c')) w') : wpList Try.prog ops Q (o :: rest) a w := by
  subst hm
  obtain ⟨i0, hi, hz0, hz1, hz2⟩ := info_parts info_ref4
  have hown : w.ownsRow g 26 34 (.slice (some ⟨g, 0, none⟩) 1 1) 1 (refCells k d A1 n1 c1) :=
    ⟨by rw [refCells_length hd], .inr ⟨g, 1, refRow k d A1 n1 c1, rfl, Nat.le_refl _, hb, Nat.le_refl _, by unfold maxLen; omega, by rw [refRow_size hd], List.take_of_length_le (by rw [Array.length_toList, refRow_size hd]; exact Nat.le_refl _)⟩⟩
  have hlt := hb.lt
  refine wpList_append_any w hgd s y 27 ho g 26 i0 (.agg refZ) 34 64 Try.underlying27 hi hz0 hz1 hz2 rfl (by omega) _ 1 (refCells k d A1 n1 c1) hs hown B A n c (flat vs) hy hr h1 (by unfold maxLen; omega) (by omega) (by omega) ?_
  intro v' w' hown' hg hob
  obtain ⟨A', c', rfl⟩ : ∃ A' c', v' = .slice A' (1 + n) c' := by
    rcases hown'.2 with ⟨rfl, h0⟩ | ⟨g, cap, cur, rfl, _⟩
    · omega
    · exact ⟨_, _, rfl⟩
  exact H A' c' w' (Own.of_row hown') hg
theorem sameref_z (d b : List UInt8) (A A' : Option Addr) (n n' c c' : Nat) (w : World) (hd : d = Nd.z32) (h : Bytes w w.heap.size A n c b) (h' : Bytes w w.heap.size A' n' c' b) :
    Calls Try.prog 12 #[.agg (refRow 1 Nd.z32 A n c), .agg (refRow 1 d A' n' c')] w fun e w' => e = .returned (.bool true) ∧ Below w.heap.size w w' := by
  subst hd
  have := ref_SameRef 1 1 Nd.z32 Nd.z32 b b A A' n n' c c' w rfl rfl h h'
  simpa using this
/-- what NodeShort's loop keeps -/
structure ShoL (w : World) (x : Nd.No) (Ap : Option Addr) (np cp : Nat) (Av : Option Addr) (nv cv : Nat) (Ac : Option Addr) (nc cc : Nat) (Ak : Option Addr) (nk kk : Nat) (B : Nat) (A3 : Option Addr) (m3 : Nat) (vs : List Value) (W : World) : Prop where
  f : NodF w x.kind Ap np cp Av nv cv x.child.kind x.child.dig Ac nc cc Ak nk kk W
  sz : B ≤ W.heap.size
  its : InS (fun q => q < B) W 34 A3 m3 (flat vs)
  all : All2 (RefIn (fun q => q < B) W) vs (Nd.refs x)
theorem ShoL.step {w W W' : World} {x : Nd.No} {Ap Av Ac Ak A3 : Option Addr} {np cp nv cv nc cc nk kk B m3 : Nat} {vs : List Value} (h : ShoL w x Ap np cp Av nv cv Ac nc cc Ak nk kk B A3 m3 vs W) (hcd : x.child.dig.length = 32) (hb : Below W.heap.size W W') : ShoL w x Ap np cp Av nv cv Ac nc cc Ak nk kk B A3 m3 vs W' :=
  have hmv : ∀ q, q < B → q < W.heap.size → q < B ∧ W'.heap[q]? = W.heap[q]? := fun q h1 h2 => ⟨h1, hb.block q h2⟩
  ⟨h.f.step hcd hb, Nat.le_trans h.sz hb.size, h.its.move hmv hb.size, h.all.imp fun v y hy => hy.move hmv hb.size⟩
/-- what a round of it reads -/
structure ShoI (w : World) (x : Nd.No) (g6 : Nat) (row : Array Value) (A1 : Option Addr) (n1 c1 : Nat) (inl : List UInt8) (g7 : Nat) (mk : Int) (W : World) : Prop where
  c0 : W.cell? ⟨w.heap.size, 0, none⟩ = some (.int .i64 x.kind)
  r6 : Blk W g6 26 row
  b1 : Bytes W W.heap.size A1 n1 c1 inl
  c7 : W.cell? ⟨g7, 0, none⟩ = some (.int .i64 mk)
  l0 : w.heap.size < W.heap.size
  l7 : g7 < W.heap.size
theorem ShoI.step {w W W' : World} {x : Nd.No} {g6 g7 : Nat} {row : Array Value} {A1 : Option Addr} {n1 c1 : Nat} {inl : List UInt8} {mk : Int} (h : ShoI w x g6 row A1 n1 c1 inl g7 mk W) (hb : Below W.heap.size W W') : ShoI w x g6 row A1 n1 c1 inl g7 mk W' :=
  ⟨(hb.cell (p := ⟨w.heap.size, 0, none⟩) h.l0).trans h.c0, h.r6.below hb h.r6.lt, h.b1.step hb, (hb.cell (p := ⟨g7, 0, none⟩) h.l7).trans h.c7, Nat.lt_of_lt_of_le h.l0 hb.size, Nat.lt_of_lt_of_le h.l7 hb.size⟩
set_option maxHeartbeats 4000000 in
set_option maxRecDepth 100000 in
theorem law_NodeShort (v : Value) (x : Nd.No) (w : World) (hv : NodIn (fun q => q < w.heap.size) w v x) : Calls Try.prog 6 #[v] w (PostT w) := by
  have hwf := hv.wf
  have hmv0 : ∀ q, q < w.heap.size → q < w.heap.size → q < w.heap.size ∧ (w.alloc (.cells v.cells 29)).heap[q]? = w.heap[q]? := fun q h _ => ⟨h, Below.heap_alloc w _ q h⟩
  have hv0 := hv.move hmv0 (by simp)
  obtain ⟨Ap, np, cp, Av, nv, cv, Ac, nc, cc, Ak, nk, kk, vs, rfl, hcd, -, -, ⟨hc1, hc2, hc3, hc4⟩, hnk, hkk, hkm, hin, hall⟩ := hv
  rw [show (nodCells x.kind Ap np cp Av nv cv x.child.kind x.child.dig Ac nc cc Ak nk kk).toArray = nodRow x.kind Ap np cp Av nv cv x.child.kind x.child.dig Ac nc cc Ak nk kk from rfl] at *
  have hF : NodF w x.kind Ap np cp Av nv cv x.child.kind x.child.dig Ac nc cc Ak nk kk (w.alloc (.cells (nodRow x.kind Ap np cp Av nv cv x.child.kind x.child.dig Ac nc cc Ak nk kk) 29)) := NodF.of (Blk.new w _ _) hcd ((Below.refl _ _).alloc (Nat.le_refl _) _)
  have hRs : (nodRow x.kind Ap np cp Av nv cv x.child.kind x.child.dig Ac nc cc Ak nk kk).size = 38 := nodRow_size hcd
  have hE := node_Encode _ _ x _ hv0 (fun q h => by simp [Value.cells]; omega)
  have hblk := hF.blk
  have hcR : RefIn (fun q => q < w.heap.size) w (.agg (refRow x.child.kind x.child.dig Ac nc cc)) x.child := ⟨Ac, nc, cc, rfl, hcd, hc1, hc2, hc3, hc4⟩
  clear hv0 hmv0 hc1 hc2 hc3 hc4
  replace hF := Lib.hid hF
  replace hcR := Lib.hid hcR
  replace hnk := Lib.hid hnk
  replace hin := Lib.hid hin
  replace hall := Lib.hid hall
  replace hwf := Lib.hid hwf
  replace hcd := Lib.hid hcd
  replace hRs := Lib.hid hRs
  simp only [Value.cells] at hE
  cases hR : Nd.right Nd.dec x with
  | false =>
    rw [hR] at hE
    simp only [Bool.false_eq_true, if_false] at hE
    replace hR := Lib.hid hR
    generalize nodRow x.kind Ap np cp Av nv cv x.child.kind x.child.dig Ac nc cc Ak nk kk = R at *
    go_enter Try.func6, Try.ntmps6
    go_wp2_with (first
      | (refine wpList_load_row rfl 29 _ rfl w.heap.size rfl _ _ _ _ hblk Try.underlying29 rfl (by rw [hRs.out]; exact info_node) ?_)
      | fail)
    refine hE.mono ?_
    rintro e w2 ⟨A2, n2, c2, rfl, -, -, hb2⟩
    have hb := Lib.hid (hF.out.bel.trans (hb2.mono hF.out.bel.size))
    clear hE hb2
    go_wp2_with fail
    refine (law05_alive w2).mono ?_
    rintro e w3 ⟨rfl, hb3⟩
    have hbe := Lib.hid (hb.out.trans (hb3.mono hb.out.size))
    clear hb3
    go_wp2_with fail
    go_ret
    exact ⟨rfl, hbe.out⟩
  | true =>
    rw [hR] at hE
    simp only [if_true] at hE
    have hrr := Lib.hid (Nd.right_refs hR)
    have hk16 := Nd.right_kids hR
    have hlb := Lib.hid (fun r m => Nd.long_branch (r := r) (m := m) hwf.out hR)
    have hbl := Lib.hid (fun hk => Nd.branch_long (Nd.dec_enc hwf.out hR) hk)
    replace hR := Lib.hid hR
    rw [← hnk.out] at hk16
    generalize Nd.enc x = l at *
    have hstep : ∀ w1, Below (w.alloc (.cells (nodRow x.kind Ap np cp Av nv cv x.child.kind x.child.dig Ac nc cc Ak nk kk) 29)).heap.size (w.alloc (.cells (nodRow x.kind Ap np cp Av nv cv x.child.kind x.child.dig Ac nc cc Ak nk kk) 29)) w1 → NodF w x.kind Ap np cp Av nv cv x.child.kind x.child.dig Ac nc cc Ak nk kk w1 := fun w1 hb => hF.out.step hcd.out hb
    replace hstep := Lib.hid hstep
    go_enter Try.func6, Try.ntmps6
    go_wp2_with (first
      | (refine wpList_load_row rfl 29 _ rfl w.heap.size rfl _ _ _ _ hblk Try.underlying29 rfl (by rw [hRs.out]; exact info_node) ?_)
      | fail)
    refine hE.mono ?_
    rintro e w2 ⟨A2, n2, c2, rfl, hn2, -, hb2⟩
    have hF2 := hstep.out w2 hb2
    have c0 := hF2.c0
    have c37 := hF2.c37
    have hch := hF2.ch
    replace hF2 := Lib.hid hF2
    clear hE hb2 hblk hF hstep
    have h18 : x.kind = 3 → ¬ (n2 : Int) < 18 := fun hk => by have := hbl.out hk; omega
    replace hn2 := Lib.hid hn2
    by_cases hk3 : x.kind = 3
    · have h18' := h18 hk3
      clear h18
      have c37' : ∀ o : Obj, (w2.alloc o).cell? ⟨w.heap.size, 37, none⟩ = some (.slice Ak nk kk) := fun o => (World.cell?_alloc_lt w2 _ _ (by exact hF2.out.blk.lt)).trans c37
      have hrk : ∀ o : Obj, Reads (w2.alloc o) w.heap.size 34 Ak nk (flat vs) := fun o => ((hin.out.reads fun g _ h => h).below hF2.out.bel).alloc hF2.out.bel.size o
      have hone := Lib.hid (flat_one_refs hall.out)
      obtain ⟨m3, hm3⟩ : ∃ m3, m3 = 1 + nk := ⟨_, rfl⟩
      have hm63 : (m3 : Int) ≤ 9223372036854775807 := by omega
      replace hm3 := Lib.hid hm3
      go_wp2_with (first
        | (refine wpList_load_mid rfl 26 _ rfl w.heap.size 3 rfl (refCells x.child.kind x.child.dig Ac nc cc) _ hch Try.underlying26 rfl (by rw [refCells_length hcd.out]; exact info_ref) ?_)
        | (refine wpList_build_ref rfl _ rfl x.child.kind x.child.dig nc hcd.out rfl ?_)
        | (at_builtin; refine wpList_append_refs rfl _ _ rfl rfl (Blk.new w2 26 (refRow x.child.kind x.child.dig Ac nc cc)) hcd.out rfl (hrk _) hone.out (by omega) hm3.out ?_; intro A3 c3 w3 hown3 hg3; replace hown3 := Lib.hid hown3; replace hg3 := Lib.hid hg3)
        | fail)
      have hb3 : Below w2.heap.size w2 w3 := below_grown ((Below.refl _ _).alloc (Nat.le_refl _) _) hg3.out (Nat.le_refl _) (by simp)
      have hF3 := hF2.out.step hcd.out hb3
      have hL3 : ShoL w x Ap np cp Av nv cv Ac nc cc Ak nk kk w3.heap.size A3 m3 (.agg (refRow x.child.kind x.child.dig Ac nc cc) :: vs) w3 := by
        have hmv : ∀ q, q < w.heap.size → q < w.heap.size → q < w3.heap.size ∧ w3.heap[q]? = w.heap[q]? := fun q h _ => ⟨Nat.lt_of_lt_of_le h hF3.bel.size, hF3.bel.block q h⟩
        exact ⟨hF3, Nat.le_refl _, (InS.of_own hown3.out).move (fun q _ h => ⟨h, rfl⟩) (Nat.le_refl _), All2.cons (hcR.out.move hmv hF3.bel.size) (hall.out.imp fun v y hy => hy.move hmv hF3.bel.size)⟩
      have hlenR := Lib.hid (show m3 = (Nd.refs x).length by rw [hm3.out, hnk.out]; simp [Nd.refs]; omega)
      clear c0 c37 hch hF2 c37' hrk hg3 hown3 hb3 hF3 hin hone hm3
      generalize (Value.agg (refRow x.child.kind x.child.dig Ac nc cc) :: vs) = ws at hL3
      go_loopw [32] (fun i wr => ∃ j : Nat, j ≤ m3 ∧ i = .int .i64 j ∧ ShoL w x Ap np cp Av nv cv Ac nc cc Ak nk kk w3.heap.size A3 m3 ws wr) (fun i _ => m3 - (intOf i).toNat)
      case atStart => exact ⟨0, Nat.zero_le _, rfl, hL3⟩
      case round =>
        clear hL3
        obtain ⟨j, hj, rfl, hL⟩ := hrel
        by_cases hlt : j < m3
        · have hlt' : (j : Int) < m3 := by omega
          have hjx : j < (Nd.refs x).length := by rw [← hlenR.out]; exact hlt
          obtain ⟨g1, o1, A1, n1, c1, rfl, hSg1, hg1, hr1, hd1, hby1⟩ := refs_at hL.its hL.all hlenR.out j hjx
          have hmem := List.getElem_mem hjx
          have hw0 : w.heap.size < wr.heap.size := hL.f.blk.lt
          have hc0 := Lib.hid hL.f.c0
          generalize (Nd.refs x)[j] = r at *
          obtain ⟨rk, rd, ri⟩ := r
          simp only at hr1 hd1 hby1
          have hst := Lib.hid (ref_stored (wr := wr) (refRow rk rd A1 n1 c1))
          replace hL := Lib.hid hL
          replace hd1 := Lib.hid hd1
          replace hby1 := Lib.hid hby1
          replace hmem := Lib.hid hmem
          replace hw0 := Lib.hid hw0
          replace hSg1 := Lib.hid hSg1
          replace hg1 := Lib.hid hg1
          by_cases hk1 : rk = 1
          · subst hk1
            have hrr1 := hrr.out _ hmem.out rfl
            obtain ⟨hdz, h32, m, hm⟩ := Nd.rightRef_inline hrr1 rfl
            simp only at hdz h32 hm
            have hlb1 := Lib.hid (fun hk hmk => hlb.out _ m hk hmem.out rfl hm hmk)
            replace hdz := Lib.hid hdz
            replace h32 := Lib.hid h32
            replace hm := Lib.hid hm
            clear hrr1
            go_wp2_with (first
              | (refine wpList_load_mid rfl 26 _ rfl g1 (o1 + j * 34) rfl (refCells 1 rd A1 n1 c1) _ hr1 Try.underlying26 rfl (by rw [refCells_length hd1.out]; exact info_ref) ?_)
              | (refine wpList_store_row rfl 26 _ _ rfl wr.heap.size (refRow 1 rd A1 n1 c1) rfl rfl _ _ (Blk.new wr 26 refZ) (by rw [refRow_size hd1.out]; exact info_ref) (by rw [refRow_size hd1.out]; rfl) (refRow_one _ _ _ _ _) ?_; refine list_at (RefS wr (refRow 1 rd A1 n1 c1)) hst.out ?_; intro w4 hI4; have k0 : w4.cell? ⟨wr.heap.size, 0, none⟩ = some (.int .i64 1) := (hI4.it.cell 0).trans refRow_zero; have k33 : w4.cell? ⟨wr.heap.size, 33, none⟩ = some (.slice A1 n1 c1) := (hI4.it.cell 33).trans (refRow_last hd1.out); replace hI4 := Lib.hid hI4)
              | fail)
            refine (node_Decode ri A1 n1 c1 w4 (hby1.out.step hI4.out.bel)).mono ?_
            intro e w5 hq
            obtain ⟨cs5, rfl, hcl5, hone5, hnin5, hb5⟩ := hq.some_ hm.out
            have hkc : cs5[0]? = some (.int .i64 m.kind) := by
              obtain ⟨cs, e, _, _, h0⟩ := hnin5.row
              injection e with e
              rw [← List.getElem?_toArray, e, List.getElem?_toArray]
              exact h0
            have hst5 := Lib.hid (node_stored (wr := w5) cs5.toArray)
            have hcs5 := Lib.hid (show cs5.toArray.size = 38 by simp [hcl5])
            replace hone5 := Lib.hid hone5
            replace hkc := Lib.hid hkc
            replace hb5 := Lib.hid hb5
            clear hq hnin5 hcl5 k0 k33 hst
            go_wp2_with (first
              | (refine wpList_store_row rfl 29 _ _ rfl w5.heap.size cs5.toArray rfl rfl _ _ (Blk.new w5 29 noZ) (by rw [hcs5.out]; exact info_node) (by rw [hcs5.out]; rfl) hone5.out ?_; refine list_at (NodS w5 cs5.toArray) hst5.out ?_; intro w6 hI6'; replace hI6' := Lib.hid hI6')
              | fail)
            have hb45 := hI4.out.bel.trans (hb5.out.mono hI4.out.bel.size)
            have hb6 := hb45.trans (hI6'.out.bel.mono hb45.size)
            have hI6 : ShoI w x wr.heap.size (refRow 1 rd A1 n1 c1) A1 n1 c1 ri w5.heap.size m.kind w6 :=
              ⟨(hb6.cell (p := ⟨w.heap.size, 0, none⟩) hw0.out).trans hc0.out, (hI4.out.it.below hb5.out hI4.out.it.lt).below hI6'.out.bel (Nat.lt_of_lt_of_le hI4.out.it.lt hb5.out.size), hby1.out.step hb6, (hI6'.out.it.cell 0).trans (by rw [List.getElem?_toArray]; exact hkc.out), Nat.lt_of_lt_of_le hw0.out hb6.size, hI6'.out.it.lt⟩
            replace hI6 := Lib.hid hI6
            replace hb6 := Lib.hid hb6
            clear hI6' hb45 hb5 hI4 hst5 hkc
            by_cases hl32 : n2 < 32
            · have hl32' : (n2 : Int) < 32 := by omega
              have hk3' := hk3
              have hmk : ¬ m.kind = 3 := fun h => by have := hlb1.out hk3' h; have := hn2.out; omega
              clear hl32
              refine wp_region_held_drew (S := (ShoI w x wr.heap.size (refRow 1 rd A1 n1 c1) A1 n1 c1 ri w5.heap.size m.kind)) (by kernel_rfl) (by exact hI6.out.step ((Below.refl _ _).drew)) (fun hS => ?_)
              (refine hTake (i := 0) (v := ?v1) rfl (by kernel_rfl) (by kernel_rfl) (by kernel_rfl) (fun _ _ _ h => h) (Or.inl ⟨by rfl, ?y1⟩) hS ?r1; (case y1 => (intro W hW; (go_simp); (try with_reducible rfl); done)); try simp only [Act.put, List.setIfInBounds_toArray, List.set_cons_zero, List.set_cons_succ])
              (refine hTake (i := 1) (v := ?v2) rfl (by kernel_rfl) (by kernel_rfl) (by kernel_rfl) (fun _ _ _ h => h) (Or.inl ⟨by rfl, ?y2⟩) hS ?r2; (case y2 => (intro W hW; (go_simp); (try with_reducible rfl); done)); try simp only [Act.put, List.setIfInBounds_toArray, List.set_cons_zero, List.set_cons_succ])
              (refine hTake (i := 2) (v := ?v3) rfl (by kernel_rfl) (by kernel_rfl) (by kernel_rfl) (fun _ _ _ h => h) (Or.inl ⟨by rfl, ?y3⟩) hS ?r3; (case y3 => (intro W hW; (go_simp); (try with_reducible rfl); done)); try simp only [Act.put, List.setIfInBounds_toArray, List.set_cons_zero, List.set_cons_succ])
              (refine hTake (i := 3) (v := ?v4) rfl (by kernel_rfl) (by kernel_rfl) (by kernel_rfl) (fun _ _ _ h => h) (Or.inl ⟨by rfl, ?y4⟩) hS ?r4; (case y4 => (intro W hW; (go_simp); (try with_reducible rfl); done)); try simp only [Act.put, List.setIfInBounds_toArray, List.set_cons_zero, List.set_cons_succ])
              (refine hTake (i := 4) (v := ?v5) rfl (by kernel_rfl) (by kernel_rfl) (by kernel_rfl) (fun _ _ _ h => h) (Or.inl ⟨by rfl, ?y5⟩) hS ?r5; (case y5 => (intro W hW; ((have g := (hW.r6.cell 33).trans (refRow_last hd1.out); go_simp)); (try with_reducible rfl); done)); try simp only [Act.put, List.setIfInBounds_toArray, List.set_cons_zero, List.set_cons_succ])
              (refine hTake (i := 6) rfl (by kernel_rfl) (by kernel_rfl) (by kernel_rfl) (fun _ _ _ h => h) (yieldsIf_load_mid (by rfl) _ _ rfl _ _ rfl (refCells 1 rd A1 n1 c1) _ (fun W hW => (by exact hW.r6.range0)) Try.underlying26 rfl (by rw [refCells_length hd1.out]; exact info_ref)) hS ?_; try simp only [Act.put, List.setIfInBounds_toArray, List.set_cons_zero, List.set_cons_succ])
              (refine hOne (i := 5) rfl (by kernel_rfl) (fun K hK => ?_))
              rw [if_pos (by rfl)]
              go_simp
              refine (node_Refer_short A1 n1 c1 ri _ hS.b1 h32.out).mono ?_
              rintro e w7 ⟨A7, m7, c7, rfl, -, hN7⟩
              have hI7 := hS.step hN7.2.2
              have hby7 := Lib.hid hN7.bytes
              have hb7 := Lib.hid hN7.2.2
              clear hN7
              (refine hK.out _ _ (by exact hI7) (fun hS => ?_); clear hK K; try simp only [Act.put, List.setIfInBounds_toArray, List.set_cons_zero, List.set_cons_succ])
              (refine hOne (i := 7) rfl (by kernel_rfl) (fun K hK => ?_))
              rw [if_pos (by rfl)]
              go_simp
              refine (sameref_z rd ri A7 A1 m7 n1 c7 c1 w7 hdz.out hby7.out hI7.b1).mono ?_
              rintro e w8 ⟨rfl, hb8⟩
              have hI8 := hI7.step hb8
              replace hb8 := Lib.hid hb8
              (refine hK.out _ _ (by exact hI8) (fun hS => ?_); clear hK K; try simp only [Act.put, List.setIfInBounds_toArray, List.set_cons_zero, List.set_cons_succ])
              (refine hTake (i := 8) (v := ?v6) rfl (by kernel_rfl) (by kernel_rfl) (by kernel_rfl) (fun _ _ _ h => h) (Or.inl ⟨by rfl, ?y6⟩) hS ?r6; (case y6 => (intro W hW; (go_simp); (try with_reducible rfl); done)); try simp only [Act.put, List.setIfInBounds_toArray, List.set_cons_zero, List.set_cons_succ])
              (refine hTake (i := 9) (v := ?v7) rfl (by kernel_rfl) (by kernel_rfl) (by kernel_rfl) (fun _ _ _ h => h) (Or.inl ⟨by rfl, ?y7⟩) hS ?r7; (case y7 => (intro W hW; (go_simp); (try with_reducible rfl); done)); try simp only [Act.put, List.setIfInBounds_toArray, List.set_cons_zero, List.set_cons_succ])
              (refine hTake (i := 10) (v := ?v8) rfl (by kernel_rfl) (by kernel_rfl) (by kernel_rfl) (fun _ _ _ h => h) (Or.inl ⟨by rfl, ?y8⟩) hS ?r8; (case y8 => (intro W hW; (go_simp); (try with_reducible rfl); done)); try simp only [Act.put, List.setIfInBounds_toArray, List.set_cons_zero, List.set_cons_succ])
              (refine hTake (i := 11) (v := ?v9) rfl (by kernel_rfl) (by kernel_rfl) (by kernel_rfl) (fun _ _ _ h => h) (Or.inl ⟨by rfl, ?y9⟩) hS ?r9; (case y9 => (intro W hW; (go_simp); (try with_reducible rfl); done)); try simp only [Act.put, List.setIfInBounds_toArray, List.set_cons_zero, List.set_cons_succ])
              (refine hTake (i := 12) (v := ?v10) rfl (by kernel_rfl) (by kernel_rfl) (by kernel_rfl) (fun _ _ _ h => h) (Or.inl ⟨by rfl, ?y10⟩) hS ?r10; (case y10 => (intro W hW; (go_simp); (try with_reducible rfl); done)); try simp only [Act.put, List.setIfInBounds_toArray, List.set_cons_zero, List.set_cons_succ])
              (refine hTake (i := 13) (v := ?v11) rfl (by kernel_rfl) (by kernel_rfl) (by kernel_rfl) (fun _ _ _ h => h) (Or.inl ⟨by rfl, ?y11⟩) hS ?r11; (case y11 => (intro W hW; (go_simp); (try with_reducible rfl); done)); try simp only [Act.put, List.setIfInBounds_toArray, List.set_cons_zero, List.set_cons_succ])
              (refine hTake (i := 14) (v := ?v12) rfl (by kernel_rfl) (by kernel_rfl) (by kernel_rfl) (fun _ _ _ h => h) (Or.inl ⟨by rfl, ?y12⟩) hS ?r12; (case y12 => (intro W hW; (go_simp); (try with_reducible rfl); done)); try simp only [Act.put, List.setIfInBounds_toArray, List.set_cons_zero, List.set_cons_succ])
              (refine hTake (i := 15) (v := ?v13) rfl (by kernel_rfl) (by kernel_rfl) (by kernel_rfl) (fun _ _ _ h => h) (Or.inl ⟨by rfl, ?y13⟩) hS ?r13; (case y13 => (intro W hW; (go_simp); (try with_reducible rfl); done)); try simp only [Act.put, List.setIfInBounds_toArray, List.set_cons_zero, List.set_cons_succ])
              (refine hTake (i := 16) (v := ?v14) rfl (by kernel_rfl) (by kernel_rfl) (by kernel_rfl) (fun _ _ _ h => h) (Or.inl ⟨by rfl, ?y14⟩) hS ?r14; (case y14 => (intro W hW; ((have g := hW.c0; go_simp)); (try with_reducible rfl); done)); try simp only [Act.put, List.setIfInBounds_toArray, List.set_cons_zero, List.set_cons_succ])
              (refine hTake (i := 17) (v := ?v15) rfl (by kernel_rfl) (by kernel_rfl) (by kernel_rfl) (fun _ _ _ h => h) (Or.inl ⟨by rfl, ?y15⟩) hS ?r15; (case y15 => (intro W hW; (go_simp); (try with_reducible rfl); done)); try simp only [Act.put, List.setIfInBounds_toArray, List.set_cons_zero, List.set_cons_succ])
              (refine hTake (i := 18) (v := ?v16) rfl (by kernel_rfl) (by kernel_rfl) (by kernel_rfl) (fun _ _ _ h => h) (Or.inl ⟨by rfl, ?y16⟩) hS ?r16; (case y16 => (intro W hW; (go_simp); (try with_reducible rfl); done)); try simp only [Act.put, List.setIfInBounds_toArray, List.set_cons_zero, List.set_cons_succ])
              (refine hTake (i := 19) (v := ?v17) rfl (by kernel_rfl) (by kernel_rfl) (by kernel_rfl) (fun _ _ _ h => h) (Or.inl ⟨by rfl, ?y17⟩) hS ?r17; (case y17 => (intro W hW; (go_simp); (try with_reducible rfl); done)); try simp only [Act.put, List.setIfInBounds_toArray, List.set_cons_zero, List.set_cons_succ])
              (refine hTake (i := 20) (v := ?v18) rfl (by kernel_rfl) (by kernel_rfl) (by kernel_rfl) (fun _ _ _ h => h) (Or.inl ⟨by rfl, ?y18⟩) hS ?r18; (case y18 => (intro W hW; (go_simp); (try with_reducible rfl); done)); try simp only [Act.put, List.setIfInBounds_toArray, List.set_cons_zero, List.set_cons_succ])
              (refine hTake (i := 21) (v := ?v19) rfl (by kernel_rfl) (by kernel_rfl) (by kernel_rfl) (fun _ _ _ h => h) (Or.inl ⟨by rfl, ?y19⟩) hS ?r19; (case y19 => (intro W hW; ((have g := hW.c7; go_simp)); (try with_reducible rfl); done)); try simp only [Act.put, List.setIfInBounds_toArray, List.set_cons_zero, List.set_cons_succ])
              (refine hTake (i := 22) (v := ?v20) rfl (by kernel_rfl) (by kernel_rfl) (by kernel_rfl) (fun _ _ _ h => h) (Or.inl ⟨by rfl, ?y20⟩) hS ?r20; (case y20 => (intro W hW; (go_simp); (try with_reducible rfl); done)); try simp only [Act.put, List.setIfInBounds_toArray, List.set_cons_zero, List.set_cons_succ])
              (refine hTake (i := 23) (v := ?v21) rfl (by kernel_rfl) (by kernel_rfl) (by kernel_rfl) (fun _ _ _ h => h) (Or.inl ⟨by rfl, ?y21⟩) hS ?r21; (case y21 => (intro W hW; (go_simp); (try with_reducible rfl); done)); try simp only [Act.put, List.setIfInBounds_toArray, List.set_cons_zero, List.set_cons_succ])
              (refine hTake (i := 24) (v := ?v22) rfl (by kernel_rfl) (by kernel_rfl) (by kernel_rfl) (fun _ _ _ h => h) (Or.inl ⟨by rfl, ?y22⟩) hS ?r22; (case y22 => (intro W hW; (go_simp); (try with_reducible rfl); done)); try simp only [Act.put, List.setIfInBounds_toArray, List.set_cons_zero, List.set_cons_succ])
              refine wpAnyH_done (by kernel_rfl) ?_ _
              clear hI7 hI8 hby7
              go_wp2_with fail
              refine ⟨⟨j + 1, by omega, by go_num, hL.out.step hcd.out (hb6.out.drew.trans ((hb7.out.trans (hb8.out.mono hb7.out.size)).mono hb6.out.size))⟩, ?_⟩
              simp [intOf]; omega
            · have hl32' : ¬ (n2 : Int) < 32 := by omega
              clear hl32
              refine wp_region_held_drew (S := (ShoI w x wr.heap.size (refRow 1 rd A1 n1 c1) A1 n1 c1 ri w5.heap.size m.kind)) (by kernel_rfl) (by exact hI6.out.step ((Below.refl _ _).drew)) (fun hS => ?_)
              (refine hTake (i := 0) (v := ?v23) rfl (by kernel_rfl) (by kernel_rfl) (by kernel_rfl) (fun _ _ _ h => h) (Or.inl ⟨by rfl, ?y23⟩) hS ?r23; (case y23 => (intro W hW; (go_simp); (try with_reducible rfl); done)); try simp only [Act.put, List.setIfInBounds_toArray, List.set_cons_zero, List.set_cons_succ])
              (refine hTake (i := 1) (v := ?v24) rfl (by kernel_rfl) (by kernel_rfl) (by kernel_rfl) (fun _ _ _ h => h) (Or.inl ⟨by rfl, ?y24⟩) hS ?r24; (case y24 => (intro W hW; (go_simp); (try with_reducible rfl); done)); try simp only [Act.put, List.setIfInBounds_toArray, List.set_cons_zero, List.set_cons_succ])
              (refine hTake (i := 2) (v := ?v25) rfl (by kernel_rfl) (by kernel_rfl) (by kernel_rfl) (fun _ _ _ h => h) (Or.inl ⟨by rfl, ?y25⟩) hS ?r25; (case y25 => (intro W hW; (go_simp); (try with_reducible rfl); done)); try simp only [Act.put, List.setIfInBounds_toArray, List.set_cons_zero, List.set_cons_succ])
              (refine hTake (i := 3) (v := ?v26) rfl (by kernel_rfl) (by kernel_rfl) (by kernel_rfl) (fun _ _ _ h => h) (Or.inl ⟨by rfl, ?y26⟩) hS ?r26; (case y26 => (intro W hW; (go_simp); (try with_reducible rfl); done)); try simp only [Act.put, List.setIfInBounds_toArray, List.set_cons_zero, List.set_cons_succ])
              (refine hTake (i := 4) (v := ?v27) rfl (by kernel_rfl) (by kernel_rfl) (by kernel_rfl) (fun _ _ _ h => h) (Or.inl ⟨by rfl, ?y27⟩) hS ?r27; (case y27 => (intro W hW; ((have g := (hW.r6.cell 33).trans (refRow_last hd1.out); go_simp)); (try with_reducible rfl); done)); try simp only [Act.put, List.setIfInBounds_toArray, List.set_cons_zero, List.set_cons_succ])
              (refine hTake (i := 6) rfl (by kernel_rfl) (by kernel_rfl) (by kernel_rfl) (fun _ _ _ h => h) (yieldsIf_load_mid (by rfl) _ _ rfl _ _ rfl (refCells 1 rd A1 n1 c1) _ (fun W hW => (by exact hW.r6.range0)) Try.underlying26 rfl (by rw [refCells_length hd1.out]; exact info_ref)) hS ?_; try simp only [Act.put, List.setIfInBounds_toArray, List.set_cons_zero, List.set_cons_succ])
              (refine hOne (i := 5) rfl (by kernel_rfl) (fun K hK => ?_))
              rw [if_pos (by rfl)]
              go_simp
              refine (node_Refer_short A1 n1 c1 ri _ hS.b1 h32.out).mono ?_
              rintro e w7 ⟨A7, m7, c7, rfl, -, hN7⟩
              have hI7 := hS.step hN7.2.2
              have hby7 := Lib.hid hN7.bytes
              have hb7 := Lib.hid hN7.2.2
              clear hN7
              (refine hK.out _ _ (by exact hI7) (fun hS => ?_); clear hK K; try simp only [Act.put, List.setIfInBounds_toArray, List.set_cons_zero, List.set_cons_succ])
              (refine hOne (i := 7) rfl (by kernel_rfl) (fun K hK => ?_))
              rw [if_pos (by rfl)]
              go_simp
              refine (sameref_z rd ri A7 A1 m7 n1 c7 c1 w7 hdz.out hby7.out hI7.b1).mono ?_
              rintro e w8 ⟨rfl, hb8⟩
              have hI8 := hI7.step hb8
              replace hb8 := Lib.hid hb8
              (refine hK.out _ _ (by exact hI8) (fun hS => ?_); clear hK K; try simp only [Act.put, List.setIfInBounds_toArray, List.set_cons_zero, List.set_cons_succ])
              (refine hTake (i := 8) (v := ?v28) rfl (by kernel_rfl) (by kernel_rfl) (by kernel_rfl) (fun _ _ _ h => h) (Or.inl ⟨by rfl, ?y28⟩) hS ?r28; (case y28 => (intro W hW; (go_simp); (try with_reducible rfl); done)); try simp only [Act.put, List.setIfInBounds_toArray, List.set_cons_zero, List.set_cons_succ])
              (refine hTake (i := 9) (v := ?v29) rfl (by kernel_rfl) (by kernel_rfl) (by kernel_rfl) (fun _ _ _ h => h) (Or.inl ⟨by rfl, ?y29⟩) hS ?r29; (case y29 => (intro W hW; (go_simp); (try with_reducible rfl); done)); try simp only [Act.put, List.setIfInBounds_toArray, List.set_cons_zero, List.set_cons_succ])
              (refine hTake (i := 10) (v := ?v30) rfl (by kernel_rfl) (by kernel_rfl) (by kernel_rfl) (fun _ _ _ h => h) (Or.inl ⟨by rfl, ?y30⟩) hS ?r30; (case y30 => (intro W hW; (go_simp); (try with_reducible rfl); done)); try simp only [Act.put, List.setIfInBounds_toArray, List.set_cons_zero, List.set_cons_succ])
              (refine hTake (i := 11) (v := ?v31) rfl (by kernel_rfl) (by kernel_rfl) (by kernel_rfl) (fun _ _ _ h => h) (Or.inl ⟨by rfl, ?y31⟩) hS ?r31; (case y31 => (intro W hW; (go_simp); (try with_reducible rfl); done)); try simp only [Act.put, List.setIfInBounds_toArray, List.set_cons_zero, List.set_cons_succ])
              (refine hTake (i := 12) (v := ?v32) rfl (by kernel_rfl) (by kernel_rfl) (by kernel_rfl) (fun _ _ _ h => h) (Or.inl ⟨by rfl, ?y32⟩) hS ?r32; (case y32 => (intro W hW; (go_simp); (try with_reducible rfl); done)); try simp only [Act.put, List.setIfInBounds_toArray, List.set_cons_zero, List.set_cons_succ])
              (refine hTake (i := 13) (v := ?v33) rfl (by kernel_rfl) (by kernel_rfl) (by kernel_rfl) (fun _ _ _ h => h) (Or.inl ⟨by rfl, ?y33⟩) hS ?r33; (case y33 => (intro W hW; (go_simp); (try with_reducible rfl); done)); try simp only [Act.put, List.setIfInBounds_toArray, List.set_cons_zero, List.set_cons_succ])
              (refine hTake (i := 14) (v := ?v34) rfl (by kernel_rfl) (by kernel_rfl) (by kernel_rfl) (fun _ _ _ h => h) (Or.inl ⟨by rfl, ?y34⟩) hS ?r34; (case y34 => (intro W hW; (go_simp); (try with_reducible rfl); done)); try simp only [Act.put, List.setIfInBounds_toArray, List.set_cons_zero, List.set_cons_succ])
              (refine hTake (i := 15) (v := undef) rfl (by kernel_rfl) (by kernel_rfl) (by kernel_rfl) (fun _ _ _ h => h) (Or.inr ⟨by rfl, rfl⟩) hS ?_; try simp only [Act.put, List.setIfInBounds_toArray, List.set_cons_zero, List.set_cons_succ])
              (refine hTake (i := 16) (v := undef) rfl (by kernel_rfl) (by kernel_rfl) (by kernel_rfl) (fun _ _ _ h => h) (Or.inr ⟨by rfl, rfl⟩) hS ?_; try simp only [Act.put, List.setIfInBounds_toArray, List.set_cons_zero, List.set_cons_succ])
              (refine hTake (i := 17) (v := undef) rfl (by kernel_rfl) (by kernel_rfl) (by kernel_rfl) (fun _ _ _ h => h) (Or.inr ⟨by rfl, rfl⟩) hS ?_; try simp only [Act.put, List.setIfInBounds_toArray, List.set_cons_zero, List.set_cons_succ])
              (refine hTake (i := 18) (v := ?v35) rfl (by kernel_rfl) (by kernel_rfl) (by kernel_rfl) (fun _ _ _ h => h) (Or.inl ⟨by rfl, ?y35⟩) hS ?r35; (case y35 => (intro W hW; (go_simp); (try with_reducible rfl); done)); try simp only [Act.put, List.setIfInBounds_toArray, List.set_cons_zero, List.set_cons_succ])
              (refine hTake (i := 19) (v := ?v36) rfl (by kernel_rfl) (by kernel_rfl) (by kernel_rfl) (fun _ _ _ h => h) (Or.inl ⟨by rfl, ?y36⟩) hS ?r36; (case y36 => (intro W hW; (go_simp); (try with_reducible rfl); done)); try simp only [Act.put, List.setIfInBounds_toArray, List.set_cons_zero, List.set_cons_succ])
              (refine hTake (i := 20) (v := undef) rfl (by kernel_rfl) (by kernel_rfl) (by kernel_rfl) (fun _ _ _ h => h) (Or.inr ⟨by rfl, rfl⟩) hS ?_; try simp only [Act.put, List.setIfInBounds_toArray, List.set_cons_zero, List.set_cons_succ])
              (refine hTake (i := 21) (v := undef) rfl (by kernel_rfl) (by kernel_rfl) (by kernel_rfl) (fun _ _ _ h => h) (Or.inr ⟨by rfl, rfl⟩) hS ?_; try simp only [Act.put, List.setIfInBounds_toArray, List.set_cons_zero, List.set_cons_succ])
              (refine hTake (i := 22) (v := undef) rfl (by kernel_rfl) (by kernel_rfl) (by kernel_rfl) (fun _ _ _ h => h) (Or.inr ⟨by rfl, rfl⟩) hS ?_; try simp only [Act.put, List.setIfInBounds_toArray, List.set_cons_zero, List.set_cons_succ])
              (refine hTake (i := 23) (v := ?v37) rfl (by kernel_rfl) (by kernel_rfl) (by kernel_rfl) (fun _ _ _ h => h) (Or.inl ⟨by rfl, ?y37⟩) hS ?r37; (case y37 => (intro W hW; (go_simp); (try with_reducible rfl); done)); try simp only [Act.put, List.setIfInBounds_toArray, List.set_cons_zero, List.set_cons_succ])
              (refine hTake (i := 24) (v := ?v38) rfl (by kernel_rfl) (by kernel_rfl) (by kernel_rfl) (fun _ _ _ h => h) (Or.inl ⟨by rfl, ?y38⟩) hS ?r38; (case y38 => (intro W hW; (go_simp); (try with_reducible rfl); done)); try simp only [Act.put, List.setIfInBounds_toArray, List.set_cons_zero, List.set_cons_succ])
              refine wpAnyH_done (by kernel_rfl) ?_ _
              clear hI7 hI8 hby7
              go_wp2_with fail
              refine ⟨⟨j + 1, by omega, by go_num, hL.out.step hcd.out (hb6.out.drew.trans ((hb7.out.trans (hb8.out.mono hb7.out.size)).mono hb6.out.size))⟩, ?_⟩
              simp [intOf]; omega
          · go_wp2_with (first
              | (refine wpList_load_mid rfl 26 _ rfl g1 (o1 + j * 34) rfl (refCells rk rd A1 n1 c1) _ hr1 Try.underlying26 rfl (by rw [refCells_length hd1.out]; exact info_ref) ?_)
              | (refine wpList_store_row rfl 26 _ _ rfl wr.heap.size (refRow rk rd A1 n1 c1) rfl rfl _ _ (Blk.new wr 26 refZ) (by rw [refRow_size hd1.out]; exact info_ref) (by rw [refRow_size hd1.out]; rfl) (refRow_one _ _ _ _ _) ?_; refine list_at (RefS wr (refRow rk rd A1 n1 c1)) hst.out ?_; intro w4 hI4; have k0 : w4.cell? ⟨wr.heap.size, 0, none⟩ = some (.int .i64 rk) := (hI4.it.cell 0).trans refRow_zero; replace hI4 := Lib.hid hI4)
              | fail)
            refine ⟨⟨j + 1, by omega, by go_num, hL.out.step hcd.out hI4.out.bel⟩, ?_⟩
            simp [intOf]; omega
        · obtain rfl : j = m3 := by omega
          have hlt' : ¬ (j : Int) < j := by omega
          have hbel := Lib.hid hL.f.bel
          clear hL
          go_wp2_with fail
          refine (law05_alive wr).mono ?_
          rintro e w9 ⟨rfl, hb9⟩
          have hbe := Lib.hid (hbel.out.trans (hb9.mono hbel.out.size))
          clear hb9
          go_wp2_with fail
          go_ret
          exact ⟨rfl, hbe.out⟩
    · clear h18
      have hk3b : (x.kind == 3) = false := beq_eq_false_iff_ne.2 hk3
      have c37' : ∀ o : Obj, (w2.alloc o).cell? ⟨w.heap.size, 37, none⟩ = some (.slice Ak nk kk) := fun o => (World.cell?_alloc_lt w2 _ _ (by exact hF2.out.blk.lt)).trans c37
      have hrk : ∀ o : Obj, Reads (w2.alloc o) w.heap.size 34 Ak nk (flat vs) := fun o => ((hin.out.reads fun g _ h => h).below hF2.out.bel).alloc hF2.out.bel.size o
      have hone := Lib.hid (flat_one_refs hall.out)
      obtain ⟨m3, hm3⟩ : ∃ m3, m3 = 1 + nk := ⟨_, rfl⟩
      have hm63 : (m3 : Int) ≤ 9223372036854775807 := by omega
      replace hm3 := Lib.hid hm3
      go_wp2_with (first
        | (refine wpList_load_mid rfl 26 _ rfl w.heap.size 3 rfl (refCells x.child.kind x.child.dig Ac nc cc) _ hch Try.underlying26 rfl (by rw [refCells_length hcd.out]; exact info_ref) ?_)
        | (refine wpList_build_ref rfl _ rfl x.child.kind x.child.dig nc hcd.out rfl ?_)
        | (at_builtin; refine wpList_append_refs rfl _ _ rfl rfl (Blk.new w2 26 (refRow x.child.kind x.child.dig Ac nc cc)) hcd.out rfl (hrk _) hone.out (by omega) hm3.out ?_; intro A3 c3 w3 hown3 hg3; replace hown3 := Lib.hid hown3; replace hg3 := Lib.hid hg3)
        | fail)
      have hb3 : Below w2.heap.size w2 w3 := below_grown ((Below.refl _ _).alloc (Nat.le_refl _) _) hg3.out (Nat.le_refl _) (by simp)
      have hF3 := hF2.out.step hcd.out hb3
      have hL3 : ShoL w x Ap np cp Av nv cv Ac nc cc Ak nk kk w3.heap.size A3 m3 (.agg (refRow x.child.kind x.child.dig Ac nc cc) :: vs) w3 := by
        have hmv : ∀ q, q < w.heap.size → q < w.heap.size → q < w3.heap.size ∧ w3.heap[q]? = w.heap[q]? := fun q h _ => ⟨Nat.lt_of_lt_of_le h hF3.bel.size, hF3.bel.block q h⟩
        exact ⟨hF3, Nat.le_refl _, (InS.of_own hown3.out).move (fun q _ h => ⟨h, rfl⟩) (Nat.le_refl _), All2.cons (hcR.out.move hmv hF3.bel.size) (hall.out.imp fun v y hy => hy.move hmv hF3.bel.size)⟩
      have hlenR := Lib.hid (show m3 = (Nd.refs x).length by rw [hm3.out, hnk.out]; simp [Nd.refs]; omega)
      clear c0 c37 hch hF2 c37' hrk hg3 hown3 hb3 hF3 hin hone hm3
      generalize (Value.agg (refRow x.child.kind x.child.dig Ac nc cc) :: vs) = ws at hL3
      go_loopw [32] (fun i wr => ∃ j : Nat, j ≤ m3 ∧ i = .int .i64 j ∧ ShoL w x Ap np cp Av nv cv Ac nc cc Ak nk kk w3.heap.size A3 m3 ws wr) (fun i _ => m3 - (intOf i).toNat)
      case atStart => exact ⟨0, Nat.zero_le _, rfl, hL3⟩
      case round =>
        clear hL3
        obtain ⟨j, hj, rfl, hL⟩ := hrel
        by_cases hlt : j < m3
        · have hlt' : (j : Int) < m3 := by omega
          have hjx : j < (Nd.refs x).length := by rw [← hlenR.out]; exact hlt
          obtain ⟨g1, o1, A1, n1, c1, rfl, hSg1, hg1, hr1, hd1, hby1⟩ := refs_at hL.its hL.all hlenR.out j hjx
          have hmem := List.getElem_mem hjx
          have hw0 : w.heap.size < wr.heap.size := hL.f.blk.lt
          have hc0 := Lib.hid hL.f.c0
          generalize (Nd.refs x)[j] = r at *
          obtain ⟨rk, rd, ri⟩ := r
          simp only at hr1 hd1 hby1
          have hst := Lib.hid (ref_stored (wr := wr) (refRow rk rd A1 n1 c1))
          replace hL := Lib.hid hL
          replace hd1 := Lib.hid hd1
          replace hby1 := Lib.hid hby1
          replace hmem := Lib.hid hmem
          replace hw0 := Lib.hid hw0
          replace hSg1 := Lib.hid hSg1
          replace hg1 := Lib.hid hg1
          by_cases hk1 : rk = 1
          · subst hk1
            have hrr1 := hrr.out _ hmem.out rfl
            obtain ⟨hdz, h32, m, hm⟩ := Nd.rightRef_inline hrr1 rfl
            simp only at hdz h32 hm
            have hlb1 := Lib.hid (fun hk hmk => hlb.out _ m hk hmem.out rfl hm hmk)
            replace hdz := Lib.hid hdz
            replace h32 := Lib.hid h32
            replace hm := Lib.hid hm
            clear hrr1
            go_wp2_with (first
              | (refine wpList_load_mid rfl 26 _ rfl g1 (o1 + j * 34) rfl (refCells 1 rd A1 n1 c1) _ hr1 Try.underlying26 rfl (by rw [refCells_length hd1.out]; exact info_ref) ?_)
              | (refine wpList_store_row rfl 26 _ _ rfl wr.heap.size (refRow 1 rd A1 n1 c1) rfl rfl _ _ (Blk.new wr 26 refZ) (by rw [refRow_size hd1.out]; exact info_ref) (by rw [refRow_size hd1.out]; rfl) (refRow_one _ _ _ _ _) ?_; refine list_at (RefS wr (refRow 1 rd A1 n1 c1)) hst.out ?_; intro w4 hI4; have k0 : w4.cell? ⟨wr.heap.size, 0, none⟩ = some (.int .i64 1) := (hI4.it.cell 0).trans refRow_zero; have k33 : w4.cell? ⟨wr.heap.size, 33, none⟩ = some (.slice A1 n1 c1) := (hI4.it.cell 33).trans (refRow_last hd1.out); replace hI4 := Lib.hid hI4)
              | fail)
            refine (node_Decode ri A1 n1 c1 w4 (hby1.out.step hI4.out.bel)).mono ?_
            intro e w5 hq
            obtain ⟨cs5, rfl, hcl5, hone5, hnin5, hb5⟩ := hq.some_ hm.out
            have hkc : cs5[0]? = some (.int .i64 m.kind) := by
              obtain ⟨cs, e, _, _, h0⟩ := hnin5.row
              injection e with e
              rw [← List.getElem?_toArray, e, List.getElem?_toArray]
              exact h0
            have hst5 := Lib.hid (node_stored (wr := w5) cs5.toArray)
            have hcs5 := Lib.hid (show cs5.toArray.size = 38 by simp [hcl5])
            replace hone5 := Lib.hid hone5
            replace hkc := Lib.hid hkc
            replace hb5 := Lib.hid hb5
            clear hq hnin5 hcl5 k0 k33 hst
            go_wp2_with (first
              | (refine wpList_store_row rfl 29 _ _ rfl w5.heap.size cs5.toArray rfl rfl _ _ (Blk.new w5 29 noZ) (by rw [hcs5.out]; exact info_node) (by rw [hcs5.out]; rfl) hone5.out ?_; refine list_at (NodS w5 cs5.toArray) hst5.out ?_; intro w6 hI6'; replace hI6' := Lib.hid hI6')
              | fail)
            have hb45 := hI4.out.bel.trans (hb5.out.mono hI4.out.bel.size)
            have hb6 := hb45.trans (hI6'.out.bel.mono hb45.size)
            have hI6 : ShoI w x wr.heap.size (refRow 1 rd A1 n1 c1) A1 n1 c1 ri w5.heap.size m.kind w6 :=
              ⟨(hb6.cell (p := ⟨w.heap.size, 0, none⟩) hw0.out).trans hc0.out, (hI4.out.it.below hb5.out hI4.out.it.lt).below hI6'.out.bel (Nat.lt_of_lt_of_le hI4.out.it.lt hb5.out.size), hby1.out.step hb6, (hI6'.out.it.cell 0).trans (by rw [List.getElem?_toArray]; exact hkc.out), Nat.lt_of_lt_of_le hw0.out hb6.size, hI6'.out.it.lt⟩
            replace hI6 := Lib.hid hI6
            replace hb6 := Lib.hid hb6
            clear hI6' hb45 hb5 hI4 hst5 hkc
            by_cases hl32 : n2 < 32
            · have hl32' : (n2 : Int) < 32 := by omega
              clear hl32
              refine wp_region_held_drew (S := (ShoI w x wr.heap.size (refRow 1 rd A1 n1 c1) A1 n1 c1 ri w5.heap.size m.kind)) (by kernel_rfl) (by exact hI6.out.step ((Below.refl _ _).drew)) (fun hS => ?_)
              (refine hTake (i := 0) (v := ?v39) rfl (by kernel_rfl) (by kernel_rfl) (by kernel_rfl) (fun _ _ _ h => h) (Or.inl ⟨by rfl, ?y39⟩) hS ?r39; (case y39 => (intro W hW; (go_simp); (try with_reducible rfl); done)); try simp only [Act.put, List.setIfInBounds_toArray, List.set_cons_zero, List.set_cons_succ])
              (refine hTake (i := 1) (v := ?v40) rfl (by kernel_rfl) (by kernel_rfl) (by kernel_rfl) (fun _ _ _ h => h) (Or.inl ⟨by rfl, ?y40⟩) hS ?r40; (case y40 => (intro W hW; (go_simp); (try with_reducible rfl); done)); try simp only [Act.put, List.setIfInBounds_toArray, List.set_cons_zero, List.set_cons_succ])
              (refine hTake (i := 2) (v := ?v41) rfl (by kernel_rfl) (by kernel_rfl) (by kernel_rfl) (fun _ _ _ h => h) (Or.inl ⟨by rfl, ?y41⟩) hS ?r41; (case y41 => (intro W hW; (go_simp); (try with_reducible rfl); done)); try simp only [Act.put, List.setIfInBounds_toArray, List.set_cons_zero, List.set_cons_succ])
              (refine hTake (i := 3) (v := ?v42) rfl (by kernel_rfl) (by kernel_rfl) (by kernel_rfl) (fun _ _ _ h => h) (Or.inl ⟨by rfl, ?y42⟩) hS ?r42; (case y42 => (intro W hW; (go_simp); (try with_reducible rfl); done)); try simp only [Act.put, List.setIfInBounds_toArray, List.set_cons_zero, List.set_cons_succ])
              (refine hTake (i := 4) (v := ?v43) rfl (by kernel_rfl) (by kernel_rfl) (by kernel_rfl) (fun _ _ _ h => h) (Or.inl ⟨by rfl, ?y43⟩) hS ?r43; (case y43 => (intro W hW; ((have g := (hW.r6.cell 33).trans (refRow_last hd1.out); go_simp)); (try with_reducible rfl); done)); try simp only [Act.put, List.setIfInBounds_toArray, List.set_cons_zero, List.set_cons_succ])
              (refine hTake (i := 6) rfl (by kernel_rfl) (by kernel_rfl) (by kernel_rfl) (fun _ _ _ h => h) (yieldsIf_load_mid (by rfl) _ _ rfl _ _ rfl (refCells 1 rd A1 n1 c1) _ (fun W hW => (by exact hW.r6.range0)) Try.underlying26 rfl (by rw [refCells_length hd1.out]; exact info_ref)) hS ?_; try simp only [Act.put, List.setIfInBounds_toArray, List.set_cons_zero, List.set_cons_succ])
              (refine hOne (i := 5) rfl (by kernel_rfl) (fun K hK => ?_))
              rw [if_pos (by rfl)]
              go_simp
              refine (node_Refer_short A1 n1 c1 ri _ hS.b1 h32.out).mono ?_
              rintro e w7 ⟨A7, m7, c7, rfl, -, hN7⟩
              have hI7 := hS.step hN7.2.2
              have hby7 := Lib.hid hN7.bytes
              have hb7 := Lib.hid hN7.2.2
              clear hN7
              (refine hK.out _ _ (by exact hI7) (fun hS => ?_); clear hK K; try simp only [Act.put, List.setIfInBounds_toArray, List.set_cons_zero, List.set_cons_succ])
              (refine hOne (i := 7) rfl (by kernel_rfl) (fun K hK => ?_))
              rw [if_pos (by rfl)]
              go_simp
              refine (sameref_z rd ri A7 A1 m7 n1 c7 c1 w7 hdz.out hby7.out hI7.b1).mono ?_
              rintro e w8 ⟨rfl, hb8⟩
              have hI8 := hI7.step hb8
              replace hb8 := Lib.hid hb8
              (refine hK.out _ _ (by exact hI8) (fun hS => ?_); clear hK K; try simp only [Act.put, List.setIfInBounds_toArray, List.set_cons_zero, List.set_cons_succ])
              (refine hTake (i := 8) (v := ?v44) rfl (by kernel_rfl) (by kernel_rfl) (by kernel_rfl) (fun _ _ _ h => h) (Or.inl ⟨by rfl, ?y44⟩) hS ?r44; (case y44 => (intro W hW; (go_simp); (try with_reducible rfl); done)); try simp only [Act.put, List.setIfInBounds_toArray, List.set_cons_zero, List.set_cons_succ])
              (refine hTake (i := 9) (v := ?v45) rfl (by kernel_rfl) (by kernel_rfl) (by kernel_rfl) (fun _ _ _ h => h) (Or.inl ⟨by rfl, ?y45⟩) hS ?r45; (case y45 => (intro W hW; (go_simp); (try with_reducible rfl); done)); try simp only [Act.put, List.setIfInBounds_toArray, List.set_cons_zero, List.set_cons_succ])
              (refine hTake (i := 10) (v := ?v46) rfl (by kernel_rfl) (by kernel_rfl) (by kernel_rfl) (fun _ _ _ h => h) (Or.inl ⟨by rfl, ?y46⟩) hS ?r46; (case y46 => (intro W hW; (go_simp); (try with_reducible rfl); done)); try simp only [Act.put, List.setIfInBounds_toArray, List.set_cons_zero, List.set_cons_succ])
              (refine hTake (i := 11) (v := ?v47) rfl (by kernel_rfl) (by kernel_rfl) (by kernel_rfl) (fun _ _ _ h => h) (Or.inl ⟨by rfl, ?y47⟩) hS ?r47; (case y47 => (intro W hW; (go_simp); (try with_reducible rfl); done)); try simp only [Act.put, List.setIfInBounds_toArray, List.set_cons_zero, List.set_cons_succ])
              (refine hTake (i := 12) (v := ?v48) rfl (by kernel_rfl) (by kernel_rfl) (by kernel_rfl) (fun _ _ _ h => h) (Or.inl ⟨by rfl, ?y48⟩) hS ?r48; (case y48 => (intro W hW; (go_simp); (try with_reducible rfl); done)); try simp only [Act.put, List.setIfInBounds_toArray, List.set_cons_zero, List.set_cons_succ])
              (refine hTake (i := 13) (v := ?v49) rfl (by kernel_rfl) (by kernel_rfl) (by kernel_rfl) (fun _ _ _ h => h) (Or.inl ⟨by rfl, ?y49⟩) hS ?r49; (case y49 => (intro W hW; (go_simp); (try with_reducible rfl); done)); try simp only [Act.put, List.setIfInBounds_toArray, List.set_cons_zero, List.set_cons_succ])
              (refine hTake (i := 14) (v := ?v50) rfl (by kernel_rfl) (by kernel_rfl) (by kernel_rfl) (fun _ _ _ h => h) (Or.inl ⟨by rfl, ?y50⟩) hS ?r50; (case y50 => (intro W hW; (go_simp); (try with_reducible rfl); done)); try simp only [Act.put, List.setIfInBounds_toArray, List.set_cons_zero, List.set_cons_succ])
              (refine hTake (i := 15) (v := ?v51) rfl (by kernel_rfl) (by kernel_rfl) (by kernel_rfl) (fun _ _ _ h => h) (Or.inl ⟨by rfl, ?y51⟩) hS ?r51; (case y51 => (intro W hW; (go_simp); (try with_reducible rfl); done)); try simp only [Act.put, List.setIfInBounds_toArray, List.set_cons_zero, List.set_cons_succ])
              (refine hTake (i := 16) (v := ?v52) rfl (by kernel_rfl) (by kernel_rfl) (by kernel_rfl) (fun _ _ _ h => h) (Or.inl ⟨by rfl, ?y52⟩) hS ?r52; (case y52 => (intro W hW; ((have g := hW.c0; go_simp)); (try with_reducible rfl); done)); try simp only [Act.put, List.setIfInBounds_toArray, List.set_cons_zero, List.set_cons_succ])
              (refine hTake (i := 17) (v := ?v53) rfl (by kernel_rfl) (by kernel_rfl) (by kernel_rfl) (fun _ _ _ h => h) (Or.inl ⟨by rfl, ?y53⟩) hS ?r53; (case y53 => (intro W hW; (go_simp); (try with_reducible rfl); done)); try simp only [Act.put, List.setIfInBounds_toArray, List.set_cons_zero, List.set_cons_succ])
              (refine hTake (i := 18) (v := ?v54) rfl (by kernel_rfl) (by kernel_rfl) (by kernel_rfl) (fun _ _ _ h => h) (Or.inl ⟨by rfl, ?y54⟩) hS ?r54; (case y54 => (intro W hW; (go_simp); (try with_reducible rfl); done)); try simp only [Act.put, List.setIfInBounds_toArray, List.set_cons_zero, List.set_cons_succ])
              (refine hTake (i := 19) (v := ?v55) rfl (by kernel_rfl) (by kernel_rfl) (by kernel_rfl) (fun _ _ _ h => h) (Or.inl ⟨by rfl, ?y55⟩) hS ?r55; (case y55 => (intro W hW; (go_simp); (try with_reducible rfl); done)); try simp only [Act.put, List.setIfInBounds_toArray, List.set_cons_zero, List.set_cons_succ])
              (refine hTake (i := 20) (v := undef) rfl (by kernel_rfl) (by kernel_rfl) (by kernel_rfl) (fun _ _ _ h => h) (Or.inr ⟨by rfl, rfl⟩) hS ?_; try simp only [Act.put, List.setIfInBounds_toArray, List.set_cons_zero, List.set_cons_succ])
              (refine hTake (i := 21) (v := undef) rfl (by kernel_rfl) (by kernel_rfl) (by kernel_rfl) (fun _ _ _ h => h) (Or.inr ⟨by rfl, rfl⟩) hS ?_; try simp only [Act.put, List.setIfInBounds_toArray, List.set_cons_zero, List.set_cons_succ])
              (refine hTake (i := 22) (v := undef) rfl (by kernel_rfl) (by kernel_rfl) (by kernel_rfl) (fun _ _ _ h => h) (Or.inr ⟨by rfl, rfl⟩) hS ?_; try simp only [Act.put, List.setIfInBounds_toArray, List.set_cons_zero, List.set_cons_succ])
              (refine hTake (i := 23) (v := ?v56) rfl (by kernel_rfl) (by kernel_rfl) (by kernel_rfl) (fun _ _ _ h => h) (Or.inl ⟨by rfl, ?y56⟩) hS ?r56; (case y56 => (intro W hW; (go_simp); (try with_reducible rfl); done)); try simp only [Act.put, List.setIfInBounds_toArray, List.set_cons_zero, List.set_cons_succ])
              (refine hTake (i := 24) (v := ?v57) rfl (by kernel_rfl) (by kernel_rfl) (by kernel_rfl) (fun _ _ _ h => h) (Or.inl ⟨by rfl, ?y57⟩) hS ?r57; (case y57 => (intro W hW; (go_simp); (try with_reducible rfl); done)); try simp only [Act.put, List.setIfInBounds_toArray, List.set_cons_zero, List.set_cons_succ])
              refine wpAnyH_done (by kernel_rfl) ?_ _
              clear hI7 hI8 hby7
              go_wp2_with fail
              refine ⟨⟨j + 1, by omega, by go_num, hL.out.step hcd.out (hb6.out.drew.trans ((hb7.out.trans (hb8.out.mono hb7.out.size)).mono hb6.out.size))⟩, ?_⟩
              simp [intOf]; omega
            · have hl32' : ¬ (n2 : Int) < 32 := by omega
              clear hl32
              refine wp_region_held_drew (S := (ShoI w x wr.heap.size (refRow 1 rd A1 n1 c1) A1 n1 c1 ri w5.heap.size m.kind)) (by kernel_rfl) (by exact hI6.out.step ((Below.refl _ _).drew)) (fun hS => ?_)
              (refine hTake (i := 0) (v := ?v58) rfl (by kernel_rfl) (by kernel_rfl) (by kernel_rfl) (fun _ _ _ h => h) (Or.inl ⟨by rfl, ?y58⟩) hS ?r58; (case y58 => (intro W hW; (go_simp); (try with_reducible rfl); done)); try simp only [Act.put, List.setIfInBounds_toArray, List.set_cons_zero, List.set_cons_succ])
              (refine hTake (i := 1) (v := ?v59) rfl (by kernel_rfl) (by kernel_rfl) (by kernel_rfl) (fun _ _ _ h => h) (Or.inl ⟨by rfl, ?y59⟩) hS ?r59; (case y59 => (intro W hW; (go_simp); (try with_reducible rfl); done)); try simp only [Act.put, List.setIfInBounds_toArray, List.set_cons_zero, List.set_cons_succ])
              (refine hTake (i := 2) (v := ?v60) rfl (by kernel_rfl) (by kernel_rfl) (by kernel_rfl) (fun _ _ _ h => h) (Or.inl ⟨by rfl, ?y60⟩) hS ?r60; (case y60 => (intro W hW; (go_simp); (try with_reducible rfl); done)); try simp only [Act.put, List.setIfInBounds_toArray, List.set_cons_zero, List.set_cons_succ])
              (refine hTake (i := 3) (v := ?v61) rfl (by kernel_rfl) (by kernel_rfl) (by kernel_rfl) (fun _ _ _ h => h) (Or.inl ⟨by rfl, ?y61⟩) hS ?r61; (case y61 => (intro W hW; (go_simp); (try with_reducible rfl); done)); try simp only [Act.put, List.setIfInBounds_toArray, List.set_cons_zero, List.set_cons_succ])
              (refine hTake (i := 4) (v := ?v62) rfl (by kernel_rfl) (by kernel_rfl) (by kernel_rfl) (fun _ _ _ h => h) (Or.inl ⟨by rfl, ?y62⟩) hS ?r62; (case y62 => (intro W hW; ((have g := (hW.r6.cell 33).trans (refRow_last hd1.out); go_simp)); (try with_reducible rfl); done)); try simp only [Act.put, List.setIfInBounds_toArray, List.set_cons_zero, List.set_cons_succ])
              (refine hTake (i := 6) rfl (by kernel_rfl) (by kernel_rfl) (by kernel_rfl) (fun _ _ _ h => h) (yieldsIf_load_mid (by rfl) _ _ rfl _ _ rfl (refCells 1 rd A1 n1 c1) _ (fun W hW => (by exact hW.r6.range0)) Try.underlying26 rfl (by rw [refCells_length hd1.out]; exact info_ref)) hS ?_; try simp only [Act.put, List.setIfInBounds_toArray, List.set_cons_zero, List.set_cons_succ])
              (refine hOne (i := 5) rfl (by kernel_rfl) (fun K hK => ?_))
              rw [if_pos (by rfl)]
              go_simp
              refine (node_Refer_short A1 n1 c1 ri _ hS.b1 h32.out).mono ?_
              rintro e w7 ⟨A7, m7, c7, rfl, -, hN7⟩
              have hI7 := hS.step hN7.2.2
              have hby7 := Lib.hid hN7.bytes
              have hb7 := Lib.hid hN7.2.2
              clear hN7
              (refine hK.out _ _ (by exact hI7) (fun hS => ?_); clear hK K; try simp only [Act.put, List.setIfInBounds_toArray, List.set_cons_zero, List.set_cons_succ])
              (refine hOne (i := 7) rfl (by kernel_rfl) (fun K hK => ?_))
              rw [if_pos (by rfl)]
              go_simp
              refine (sameref_z rd ri A7 A1 m7 n1 c7 c1 w7 hdz.out hby7.out hI7.b1).mono ?_
              rintro e w8 ⟨rfl, hb8⟩
              have hI8 := hI7.step hb8
              replace hb8 := Lib.hid hb8
              (refine hK.out _ _ (by exact hI8) (fun hS => ?_); clear hK K; try simp only [Act.put, List.setIfInBounds_toArray, List.set_cons_zero, List.set_cons_succ])
              (refine hTake (i := 8) (v := ?v63) rfl (by kernel_rfl) (by kernel_rfl) (by kernel_rfl) (fun _ _ _ h => h) (Or.inl ⟨by rfl, ?y63⟩) hS ?r63; (case y63 => (intro W hW; (go_simp); (try with_reducible rfl); done)); try simp only [Act.put, List.setIfInBounds_toArray, List.set_cons_zero, List.set_cons_succ])
              (refine hTake (i := 9) (v := ?v64) rfl (by kernel_rfl) (by kernel_rfl) (by kernel_rfl) (fun _ _ _ h => h) (Or.inl ⟨by rfl, ?y64⟩) hS ?r64; (case y64 => (intro W hW; (go_simp); (try with_reducible rfl); done)); try simp only [Act.put, List.setIfInBounds_toArray, List.set_cons_zero, List.set_cons_succ])
              (refine hTake (i := 10) (v := ?v65) rfl (by kernel_rfl) (by kernel_rfl) (by kernel_rfl) (fun _ _ _ h => h) (Or.inl ⟨by rfl, ?y65⟩) hS ?r65; (case y65 => (intro W hW; (go_simp); (try with_reducible rfl); done)); try simp only [Act.put, List.setIfInBounds_toArray, List.set_cons_zero, List.set_cons_succ])
              (refine hTake (i := 11) (v := ?v66) rfl (by kernel_rfl) (by kernel_rfl) (by kernel_rfl) (fun _ _ _ h => h) (Or.inl ⟨by rfl, ?y66⟩) hS ?r66; (case y66 => (intro W hW; (go_simp); (try with_reducible rfl); done)); try simp only [Act.put, List.setIfInBounds_toArray, List.set_cons_zero, List.set_cons_succ])
              (refine hTake (i := 12) (v := ?v67) rfl (by kernel_rfl) (by kernel_rfl) (by kernel_rfl) (fun _ _ _ h => h) (Or.inl ⟨by rfl, ?y67⟩) hS ?r67; (case y67 => (intro W hW; (go_simp); (try with_reducible rfl); done)); try simp only [Act.put, List.setIfInBounds_toArray, List.set_cons_zero, List.set_cons_succ])
              (refine hTake (i := 13) (v := ?v68) rfl (by kernel_rfl) (by kernel_rfl) (by kernel_rfl) (fun _ _ _ h => h) (Or.inl ⟨by rfl, ?y68⟩) hS ?r68; (case y68 => (intro W hW; (go_simp); (try with_reducible rfl); done)); try simp only [Act.put, List.setIfInBounds_toArray, List.set_cons_zero, List.set_cons_succ])
              (refine hTake (i := 14) (v := ?v69) rfl (by kernel_rfl) (by kernel_rfl) (by kernel_rfl) (fun _ _ _ h => h) (Or.inl ⟨by rfl, ?y69⟩) hS ?r69; (case y69 => (intro W hW; (go_simp); (try with_reducible rfl); done)); try simp only [Act.put, List.setIfInBounds_toArray, List.set_cons_zero, List.set_cons_succ])
              (refine hTake (i := 15) (v := undef) rfl (by kernel_rfl) (by kernel_rfl) (by kernel_rfl) (fun _ _ _ h => h) (Or.inr ⟨by rfl, rfl⟩) hS ?_; try simp only [Act.put, List.setIfInBounds_toArray, List.set_cons_zero, List.set_cons_succ])
              (refine hTake (i := 16) (v := undef) rfl (by kernel_rfl) (by kernel_rfl) (by kernel_rfl) (fun _ _ _ h => h) (Or.inr ⟨by rfl, rfl⟩) hS ?_; try simp only [Act.put, List.setIfInBounds_toArray, List.set_cons_zero, List.set_cons_succ])
              (refine hTake (i := 17) (v := undef) rfl (by kernel_rfl) (by kernel_rfl) (by kernel_rfl) (fun _ _ _ h => h) (Or.inr ⟨by rfl, rfl⟩) hS ?_; try simp only [Act.put, List.setIfInBounds_toArray, List.set_cons_zero, List.set_cons_succ])
              (refine hTake (i := 18) (v := ?v70) rfl (by kernel_rfl) (by kernel_rfl) (by kernel_rfl) (fun _ _ _ h => h) (Or.inl ⟨by rfl, ?y70⟩) hS ?r70; (case y70 => (intro W hW; (go_simp); (try with_reducible rfl); done)); try simp only [Act.put, List.setIfInBounds_toArray, List.set_cons_zero, List.set_cons_succ])
              (refine hTake (i := 19) (v := ?v71) rfl (by kernel_rfl) (by kernel_rfl) (by kernel_rfl) (fun _ _ _ h => h) (Or.inl ⟨by rfl, ?y71⟩) hS ?r71; (case y71 => (intro W hW; (go_simp); (try with_reducible rfl); done)); try simp only [Act.put, List.setIfInBounds_toArray, List.set_cons_zero, List.set_cons_succ])
              (refine hTake (i := 20) (v := undef) rfl (by kernel_rfl) (by kernel_rfl) (by kernel_rfl) (fun _ _ _ h => h) (Or.inr ⟨by rfl, rfl⟩) hS ?_; try simp only [Act.put, List.setIfInBounds_toArray, List.set_cons_zero, List.set_cons_succ])
              (refine hTake (i := 21) (v := undef) rfl (by kernel_rfl) (by kernel_rfl) (by kernel_rfl) (fun _ _ _ h => h) (Or.inr ⟨by rfl, rfl⟩) hS ?_; try simp only [Act.put, List.setIfInBounds_toArray, List.set_cons_zero, List.set_cons_succ])
              (refine hTake (i := 22) (v := undef) rfl (by kernel_rfl) (by kernel_rfl) (by kernel_rfl) (fun _ _ _ h => h) (Or.inr ⟨by rfl, rfl⟩) hS ?_; try simp only [Act.put, List.setIfInBounds_toArray, List.set_cons_zero, List.set_cons_succ])
              (refine hTake (i := 23) (v := ?v72) rfl (by kernel_rfl) (by kernel_rfl) (by kernel_rfl) (fun _ _ _ h => h) (Or.inl ⟨by rfl, ?y72⟩) hS ?r72; (case y72 => (intro W hW; (go_simp); (try with_reducible rfl); done)); try simp only [Act.put, List.setIfInBounds_toArray, List.set_cons_zero, List.set_cons_succ])
              (refine hTake (i := 24) (v := ?v73) rfl (by kernel_rfl) (by kernel_rfl) (by kernel_rfl) (fun _ _ _ h => h) (Or.inl ⟨by rfl, ?y73⟩) hS ?r73; (case y73 => (intro W hW; (go_simp); (try with_reducible rfl); done)); try simp only [Act.put, List.setIfInBounds_toArray, List.set_cons_zero, List.set_cons_succ])
              refine wpAnyH_done (by kernel_rfl) ?_ _
              clear hI7 hI8 hby7
              go_wp2_with fail
              refine ⟨⟨j + 1, by omega, by go_num, hL.out.step hcd.out (hb6.out.drew.trans ((hb7.out.trans (hb8.out.mono hb7.out.size)).mono hb6.out.size))⟩, ?_⟩
              simp [intOf]; omega
          · go_wp2_with (first
              | (refine wpList_load_mid rfl 26 _ rfl g1 (o1 + j * 34) rfl (refCells rk rd A1 n1 c1) _ hr1 Try.underlying26 rfl (by rw [refCells_length hd1.out]; exact info_ref) ?_)
              | (refine wpList_store_row rfl 26 _ _ rfl wr.heap.size (refRow rk rd A1 n1 c1) rfl rfl _ _ (Blk.new wr 26 refZ) (by rw [refRow_size hd1.out]; exact info_ref) (by rw [refRow_size hd1.out]; rfl) (refRow_one _ _ _ _ _) ?_; refine list_at (RefS wr (refRow rk rd A1 n1 c1)) hst.out ?_; intro w4 hI4; have k0 : w4.cell? ⟨wr.heap.size, 0, none⟩ = some (.int .i64 rk) := (hI4.it.cell 0).trans refRow_zero; replace hI4 := Lib.hid hI4)
              | fail)
            refine ⟨⟨j + 1, by omega, by go_num, hL.out.step hcd.out hI4.out.bel⟩, ?_⟩
            simp [intOf]; omega
        · obtain rfl : j = m3 := by omega
          have hlt' : ¬ (j : Int) < j := by omega
          have hbel := Lib.hid hL.f.bel
          clear hL
          go_wp2_with fail
          refine (law05_alive wr).mono ?_
          rintro e w9 ⟨rfl, hb9⟩
          have hbe := Lib.hid (hbel.out.trans (hb9.mono hbel.out.size))
          clear hb9
          go_wp2_with fail
          go_ret
          exact ⟨rfl, hbe.out⟩
end Go.Proofs.YtahaaeenbahknaaRRRR
