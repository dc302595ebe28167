import Derived.Test.YtioanppnkhiokaaRDig2
namespace Go.Proofs.Ytioanppnkhiokaa
open Go.RowKit

theorem info_u64 : (Try.prog.info? 68).map (fun i => (i.zero, i.size, i.bytes)) = some (some (.int .u64 0), 1, 8) := by kernel_rfl
/-- four words that are read, below a block -/
def Row4 (w : World) (B g : Nat) (s : Dig.St) : Prop := g < B ∧ ∀ i, i < 4 → w.cell? ⟨g, i, none⟩ = some (.int .u64 (Dig.v (Dig.at4 s i)))
section
variable {w w' : World} {B g : Nat} {s : Dig.St}
theorem Row4.at_ (h : Row4 w B g s) (i : Nat) (hi : i < 4) : w.cell? ⟨g, i, none⟩ = some (.int .u64 (Dig.v (Dig.at4 s i))) := h.2 i hi
theorem Row4.below (h : Row4 w B g s) (hb : Below B w w') : Row4 w' B g s := ⟨h.1, fun i hi => (hb.cell (p := ⟨g, i, none⟩) h.1).trans (h.2 i hi)⟩
theorem Row4.setCell (h : Row4 w B g s) {p : Addr} (hp : B ≤ p.block) (u : Value) : Row4 (w.setCell p u) B g s :=
  ⟨h.1, fun i hi => (World.cell?_setCell_other w p ⟨g, i, none⟩ u (fun e => by subst e; have := h.1; simp at hp; omega)).trans (h.2 i hi)⟩
theorem Row4.more {B' : Nat} (h : Row4 w B g s) (hB : B ≤ B') : Row4 w B' g s := ⟨Nat.lt_of_lt_of_le h.1 hB, h.2⟩
theorem Row4.new (w : World) (s : Dig.St) (t : TypeId) (cs : Array Value) (h : cs = row4 s) : Row4 (w.alloc (.cells cs t)) (w.heap.size + 1) w.heap.size s := by
  subst h
  exact ⟨Nat.lt_succ_self _, fun i hi => ((Blk.new w t (row4 s)).cell i).trans (row4_at s i hi)⟩
theorem Row4.new' (w : World) (a b c d : UInt64) (t : TypeId) : Row4 (w.alloc (.cells #[.int .u64 (Dig.v a), .int .u64 (Dig.v b), .int .u64 (Dig.v c), .int .u64 (Dig.v d)] t)) (w.heap.size + 1) w.heap.size ⟨a, b, c, d⟩ :=
  Row4.new w ⟨a, b, c, d⟩ t _ rfl
theorem Row4.reads (h : Row4 w B g s) : Reads w B 1 (some ⟨g, 0, none⟩) 4 (row4 s).toList := by
  refine ⟨rfl, fun _ => ⟨g, 0, rfl, h.1, fun j u hu => ?_⟩⟩
  have hj : j < 4 := (List.getElem?_eq_some_iff.1 hu).1
  rw [Nat.zero_add, h.2 j hj, ← hu]
  rw [Array.getElem?_toList]
  exact (row4_at s j hj).symm
theorem Row4.of_own {c : Nat} {base : Nat} {t : TypeId} (h : w.ownsRow base t 1 (.slice (some ⟨g, 0, none⟩) 4 c) 4 (row4 s).toList) : Row4 w w.heap.size g s := by
  refine ⟨(h.lt g rfl).2, fun i hi => ?_⟩
  have := row4_at s i hi
  rw [← Array.getElem?_toList] at this
  exact own_cell h i _ this
end
theorem wpList_append_u64 {w : World} {ops : Array Oper} {rest : List Oper} {o : Oper} {a : Act} {Q : Exit → Act → World → Prop} (hgd : o.guard = none) (s x : Operand)
    (ho : o.op = .call { callee := .builtin .append, args := #[s, x], argTypes := #[69, 69] })
    (base g0 : Nat) (hs : a.eval s = .slice (some ⟨g0, 0, none⟩) 0 0) (hg0 : g0 = w.heap.size)
    (B gx : Nat) (S : Dig.St) (hx : a.eval x = .slice (some ⟨gx, 0, none⟩) 4 4) (hr : Row4 w B gx S) (hBw : B ≤ w.heap.size) (hbase : base ≤ w.heap.size)
    (h : ∀ g c' w', Row4 w' w'.heap.size g S → Below w.heap.size w w' → wpList Try.prog ops Q rest (a.put o.dst (.slice (some ⟨g, 0, none⟩) 4 c')) w') :
    wpList Try.prog ops Q (o :: rest) a (w.alloc (.cells #[] 68)) := by
  obtain ⟨i0, hi, hz0, hz1, hz2⟩ := info_parts info_u64
  subst hg0
  have hown : (w.alloc (.cells #[] 68)).ownsRow w.heap.size 68 1 (.slice (some ⟨w.heap.size, 0, none⟩) 0 0) 0 [] :=
    World.ownsRow_lit w #[] 0 (Nat.le_refl _) (Nat.zero_le _) rfl
  refine wpList_append_any _ hgd s x 69 ho w.heap.size 68 i0 (.int .u64 0) 1 8 Try.underlying69 hi hz0 hz1 hz2 rfl (by omega) _ 0 [] hs hown B _ 4 4 _ hx (hr.reads.alloc hBw _) (by intro u hu; exact Array.all_eq_true_iff_forall_mem.1 (row4_one S) u (by simpa using hu)) (by simp [maxLen]) (by omega) (by simp) ?_
  intro v' w' h1 h2 _
  rw [Nat.zero_add, List.nil_append] at h1
  have hb : Below w.heap.size w w' := ((Below.refl _ _).alloc (Nat.le_refl _) _).trans ((Below.refl _ _).grown h2 (by simp) (fun k hk => by have := hown.lt k hk; exact this.1))
  rcases h1.2 with ⟨rfl, h0⟩ | ⟨g, cap, cur, rfl, _⟩
  · cases h0
  · exact h g cap w' (Row4.of_own h1) hb
theorem code_at {P : Program} {c : Code} {w : World} {a : Act} {Q : Exit → Act → World → Prop} (I : World → Prop) (hI : I w) (h : ∀ w2, I w2 → Code.wp P c Q a w2) : Code.wp P c Q a w := h w hI
/-- what the rounds of the reference see -/
def RefW (w : World) (A : Option Addr) (c : Nat) (T : List UInt8) (gs gp gm : Nat) (S M : Dig.St) (wr : World) : Prop :=
  Row4 wr wr.heap.size gs S ∧ Row4 wr wr.heap.size gp S ∧ Row4 wr wr.heap.size gm M ∧ Bytes wr wr.heap.size A T.length c T ∧ Blk wr w.heap.size 30 (row32 zero32) ∧ Below w.heap.size w wr
theorem RefW.drewN {w : World} {A : Option Addr} {c : Nat} {T : List UInt8} {gs gp gm : Nat} {S M : Dig.St} {wr : World} (h : RefW w A c T gs gp gm S M wr) (n : Nat) : RefW w A c T gs gp gm S M (wr.drewN n) :=
  ⟨h.1, h.2.1, h.2.2.1, h.2.2.2.1.drewN n, h.2.2.2.2.1, below_drewN h.2.2.2.2.2 n⟩
theorem Dig.out_get (F : Dig.St) (q r : Nat) (hq : q < 4) (hr : r < 8) : (Dig.out F)[8 * q + r]? = (Dig.bytes8 (Dig.at4 F q))[r]? := by
  have ha := Dig.bytes8_length F.a
  have hb := Dig.bytes8_length F.b
  have hc := Dig.bytes8_length F.c
  unfold Dig.out
  match q, hq with
  | 0, _ => rw [List.append_assoc, List.append_assoc, List.getElem?_append_left (by omega)]; simp [Dig.at4]
  | 1, _ => rw [List.append_assoc, List.append_assoc, List.getElem?_append_right (by omega), List.getElem?_append_left (by omega), ha]; simp [Dig.at4]
  | 2, _ => rw [List.append_assoc, List.append_assoc, List.getElem?_append_right (by omega), List.getElem?_append_right (by omega), List.getElem?_append_left (by omega), ha, hb]; simp [Dig.at4]; congr 1; omega
  | 3, _ => rw [List.append_assoc, List.append_assoc, List.getElem?_append_right (by omega), List.getElem?_append_right (by omega), List.getElem?_append_right (by omega), ha, hb, hc]; simp [Dig.at4]; congr 1; omega
def outI (F : Dig.St) (i : Nat) : List UInt8 := (Dig.out F).take i ++ List.replicate (32 - i) 0
theorem outI_length (F : Dig.St) (i : Nat) (h : i ≤ 32) : (outI F i).length = 32 := by
  have := Dig.out_length F
  simp [outI, this]; omega
theorem outI_set (F : Dig.St) (i : Nat) (h : i < 32) (z : Int) (hz : z = Dig.v (Dig.at4 F (i / 8)) / 2 ^ (56 - 8 * (i % 8)) % 256) : (row32 (outI F i)).setIfInBounds i (.int .u8 z) = row32 (outI F (i + 1)) := by
  have ho := Dig.out_length F
  have hb := Dig.bytes8_length (Dig.at4 F (i / 8))
  have hg := Dig.out_get F (i / 8) (i % 8) (by omega) (by omega)
  rw [show 8 * (i / 8) + i % 8 = i by omega, List.getElem?_eq_getElem (by omega), List.getElem?_eq_getElem (by omega)] at hg
  injection hg with hg
  rw [Dig.shr_byte _ _ (by omega), ← hg] at hz
  rw [hz]
  apply Array.ext'
  simp only [row32, Array.toList_setIfInBounds, outI]
  rw [bv_append, List.set_append_right _ _ (by rw [bv_length, List.length_take]; omega), bv_length, List.length_take, Nat.min_eq_left (by omega), Nat.sub_self,
    show 32 - i = (32 - (i + 1)) + 1 by omega, List.replicate_succ]
  have e : (Dig.out F).take (i + 1) = (Dig.out F).take i ++ [(Dig.out F)[i]] := List.take_succ_eq_append_getElem (by omega)
  rw [e]
  simp only [bv, List.map_append, List.map_cons, List.map_nil, List.append_assoc, List.cons_append, List.nil_append, List.set_cons_zero]
  rfl
/-- the reference writes its words: so many bytes are there -/
def OutA (w : World) (D gs : Nat) (F : Dig.St) (k : Nat) (wr : World) : Prop := Blk wr D 30 (row32 (outI F k)) ∧ Row4 wr D gs F ∧ Blk wr w.heap.size 30 (row32 zero32) ∧ Below w.heap.size w wr
theorem Dig.piece_at (T : List UInt8) (k : Nat) : Dig.piece ((T.drop k).take 32) = ⟨Dig.word ((T.drop k).take 8), Dig.word ((T.drop (k + 8)).take 8), Dig.word ((T.drop (k + 16)).take 8), Dig.word ((T.drop (k + 24)).take 8)⟩ := by
  simp [Dig.piece, List.take_take, List.drop_take]
/-- the pieces of the reference: so many are taken in -/
def RefA (w : World) (B : Nat) (A : Option Addr) (c : Nat) (T : List UInt8) (j : Nat) (v : Value) (wr : World) : Prop := ∃ gs, v = .slice (some ⟨gs, 0, none⟩) 4 4 ∧ 32 * j ≤ T.length ∧
  Row4 wr wr.heap.size gs (Dig.absorb j Dig.begun T) ∧ Bytes wr wr.heap.size A T.length c T ∧ Blk wr w.heap.size 30 (row32 zero32) ∧ Below w.heap.size w wr
set_option maxRecDepth 100000 in
set_option maxHeartbeats 1000000 in
theorem rdig_Of (l : List UInt8) (A : Option Addr) (n c : Nat) (w : World) (h : Bytes w w.heap.size A n c l) (hl : l.length ≤ 140737488355200) :
    Calls Try.prog 11 #[.slice A n c] w fun e w' => e = .returned (digV (Dig.of l)) ∧ Below w.heap.size w w' := by
  have hof : Dig.of l = Dig.out (Dig.absorb ((Dig.padded l).length / 32) Dig.begun (Dig.padded l)) := rfl
  have hpm : (Dig.padded l).length % 32 = 0 := Dig.tail_mod _ _
  have hpl : (Dig.padded l).length ≤ 140737488355300 := by
    have := Dig.tail_length l (UInt64.ofNat l.length)
    have := Dig.noughts_lt l.length
    show (Dig.tail _ _).length ≤ _
    omega
  replace hof := Lib.hid hof
  replace h := Lib.hid h
  go_enter Try.func11, Try.ntmps11
  go_wp2_with fail
  refine calls_at (DigCell w w.heap.size A n c l) ⟨Blk.zeros _ _ _ rfl, h.out.alloc (Nat.le_refl _) _, (Below.refl _ _).alloc (Nat.le_refl _) _⟩ ?_
  rintro w0 ⟨hd, hb, hB⟩
  clear h
  refine (rdig_Padded l A n c _ (hb.more (Nat.le_of_lt hd.lt)) hl).mono ?_
  rintro e w1 ⟨Ap, mp, cp, rfl, hn⟩
  have hT := hn.bytes
  have hb1 := hn.2.2
  have hd0 := hd.lt
  replace hd := Lib.hid (hd.below hb1 hd0)
  replace hB := Lib.hid (hB.trans (hb1.mono (by omega)))
  clear hn hb hb1
  have hmp := hT.len
  have hcp := hT.cap
  generalize Dig.padded l = T at *
  subst hmp
  replace hT := Lib.hid hT
  have hgold : (11400714819323198485 : Int) = Dig.v Dig.golden := by decide
  go_wp2_with fail
  rw [hgold]
  have hbegun : (⟨Dig.golden, Dig.golden + Dig.golden, Dig.golden + Dig.golden + Dig.golden, Dig.golden + Dig.golden + Dig.golden + Dig.golden⟩ : Dig.St) = Dig.begun := rfl
  go_loopw [5, 6] (fun v i wr => ∃ j : Nat, i = .int .i64 (32 * j : Nat) ∧ RefA w w1.heap.size Ap cp T j v wr) (fun _ i _ => T.length - (intOf i).toNat)
  case atStart => exact ⟨0, rfl, _, rfl, by omega, by have e := Row4.new' w1 Dig.golden (Dig.golden + Dig.golden) (Dig.golden + Dig.golden + Dig.golden) (Dig.golden + Dig.golden + Dig.golden + Dig.golden) 68; rw [hbegun] at e; simpa [Dig.absorb] using e, (hT.out.alloc (Nat.le_refl _) _).more (by simp), hd.out.alloc _, hB.out.alloc hB.out.size _⟩
  case round =>
    clear hd hT hB
    obtain ⟨j, rfl, gs, rfl, hj32, hs, hT, hd, hB⟩ := hrel
    by_cases hlt : 32 * j < T.length
    · replace hs := Lib.hid hs
      replace hT := Lib.hid hT
      replace hd := Lib.hid hd
      replace hB := Lib.hid hB
      have hj2 : 32 * (j + 1) ≤ T.length := by omega
      replace hpm := Lib.hid hpm
      go_wp2_with (first
        | (refine wpList_append_u64 rfl _ _ rfl wr.heap.size _ rfl rfl wr.heap.size gs _ rfl hs.out (Nat.le_refl _) (Nat.le_refl _) ?_
           intro gp cq w2 hp hb2
           replace hs := Lib.hid ((hs.out.below hb2).more hb2.size)
           replace hT := Lib.hid (hT.out.step hb2)
           have hdl := hd.out.lt
           replace hd := Lib.hid (hd.out.below hb2 hdl)
           replace hB := Lib.hid (hB.out.trans (hb2.mono hB.out.size))
           clear hb2
           replace hp := Lib.hid hp))
      have hpp := Dig.piece_at T (32 * j)
      refine (rdig_word T Ap T.length cp w2.heap.size (32 * j) _ w2 (by omega) hT.out (by omega) (by omega)).mono ?_
      rintro e _ ⟨rfl, rfl⟩
      generalize Dig.word ((T.drop (32 * j)).take 8) = m0 at *
      replace hpp := Lib.hid hpp
      go_wp2_with fail
      refine (rdig_word T Ap T.length cp w2.heap.size (32 * j + 8) _ w2 (by omega) hT.out (by omega) (by omega)).mono ?_
      rintro e _ ⟨rfl, rfl⟩
      replace hpp := hpp.out
      generalize Dig.word ((T.drop (32 * j + 8)).take 8) = m1 at *
      replace hpp := Lib.hid hpp
      go_wp2_with fail
      refine (rdig_word T Ap T.length cp w2.heap.size (32 * j + 16) _ w2 (by omega) hT.out (by omega) (by omega)).mono ?_
      rintro e _ ⟨rfl, rfl⟩
      replace hpp := hpp.out
      generalize Dig.word ((T.drop (32 * j + 16)).take 8) = m2 at *
      replace hpp := Lib.hid hpp
      go_wp2_with fail
      refine (rdig_word T Ap T.length cp w2.heap.size (32 * j + 24) _ w2 (by omega) hT.out (by omega) (by omega)).mono ?_
      rintro e _ ⟨rfl, rfl⟩
      replace hpp := hpp.out
      generalize Dig.word ((T.drop (32 * j + 24)).take 8) = m3 at *
      replace hpp := Lib.hid hpp
      generalize hS : Dig.absorb j Dig.begun T = S at *
      have HS := Lib.hid hS
      clear hS
      have hmm : (⟨m0, m1, m2, m3⟩ : Dig.St) = Dig.piece ((T.drop (32 * j)).take 32) := hpp.out.symm
      generalize hM : Dig.piece ((T.drop (32 * j)).take 32) = M at *
      have HM := Lib.hid hM
      clear hM hpp
      have hrow := Row4.new' w2 m0 m1 m2 m3 68
      rw [hmm] at hrow
      replace hmm := Lib.hid hmm
      replace hrow := Lib.hid hrow
      have hbn := Lib.hid ((Below.refl w2.heap.size w2).alloc (Nat.le_refl _) (.cells #[.int .u64 (Dig.v m0), .int .u64 (Dig.v m1), .int .u64 (Dig.v m2), .int .u64 (Dig.v m3)] 68))
      have hdl2 := hd.out.lt
      go_wp2_with fail
      refine code_at (RefW w Ap cp T gs gp w2.heap.size S M) ⟨(hs.out.below hbn.out).more (by simp), (hp.out.below hbn.out).more (by simp), by simpa using hrow.out, hT.out.step hbn.out, hd.out.below hbn.out hdl2, hB.out.trans (hbn.out.mono (by omega))⟩ ?_
      clear hs hp hT hd hB hrow hbn hmm
      generalize w2.heap.size = gm
      rintro w3 hw3
      have a0 : w3.cell? ⟨gs, 0, none⟩ = some (.int .u64 (Dig.v S.a)) := hw3.1.at_ 0 (by omega)
      have a1 : w3.cell? ⟨gs, 1, none⟩ = some (.int .u64 (Dig.v S.b)) := hw3.1.at_ 1 (by omega)
      have a2 : w3.cell? ⟨gs, 2, none⟩ = some (.int .u64 (Dig.v S.c)) := hw3.1.at_ 2 (by omega)
      have a3 : w3.cell? ⟨gs, 3, none⟩ = some (.int .u64 (Dig.v S.d)) := hw3.1.at_ 3 (by omega)
      have b0 : w3.cell? ⟨gm, 0, none⟩ = some (.int .u64 (Dig.v M.a)) := hw3.2.2.1.at_ 0 (by omega)
      have b1 : w3.cell? ⟨gm, 1, none⟩ = some (.int .u64 (Dig.v M.b)) := hw3.2.2.1.at_ 1 (by omega)
      have b2 : w3.cell? ⟨gm, 2, none⟩ = some (.int .u64 (Dig.v M.c)) := hw3.2.2.1.at_ 2 (by omega)
      have b3 : w3.cell? ⟨gm, 3, none⟩ = some (.int .u64 (Dig.v M.d)) := hw3.2.2.1.at_ 3 (by omega)
      replace hw3 := Lib.hid hw3
      go_quiet (fail)
      go_wp2_with fail
      go_quiet (fail)
      go_wp2_with fail
      go_quiet (fail)
      go_wp2_with fail
      go_quiet (fail)
      go_wp2_with fail
      clear a0 a1 a2 a3 b0 b1 b2 b3
      go_loopw [9, 10, 11, 12, 13, 14] (fun a b c d kv i wx => ∃ (r : Nat) (s' : Dig.St) (K : UInt64), r ≤ 8 ∧ i = .int .i64 r ∧ a = .int .u64 (Dig.v s'.a) ∧ b = .int .u64 (Dig.v s'.b) ∧ c = .int .u64 (Dig.v s'.c) ∧ d = .int .u64 (Dig.v s'.d) ∧ kv = .int .u64 (Dig.v K) ∧
        Dig.rounds (Dig.words M) (Dig.xor4 S M) Dig.golden = Dig.rounds ((Dig.words M).drop r) s' (K + Dig.golden) ∧ RefW w Ap cp T gs gp gm S M wx) (fun _ _ _ _ _ i _ => 8 - (intOf i).toNat)
      case atStart => exact ⟨0, Dig.xor4 S M, 0, by omega, rfl, rfl, rfl, rfl, rfl, rfl, by rw [UInt64.zero_add]; rfl, (((hw3.out.drewN _).drewN _).drewN _).drewN _⟩
      case round =>
        clear hw3
        obtain ⟨r, s', K, hr8, rfl, rfl, rfl, rfl, rfl, rfl, hro, hx⟩ := hrel
        by_cases hr : r < 8
        · rw [Dig.rounds_step _ _ _ r hr] at hro
          have d0 := hx.2.2.1.at_ (r % 4) (by omega)
          replace hx := Lib.hid hx
          replace hro := Lib.hid hro
          have q1 : (r : Int).tmod 4 = (r : Int) % 4 := Int.tmod_eq_emod_of_nonneg (by omega)
          have q3 : ((r : Int) % 4).toNat = r % 4 := by omega
          go_wp2_with fail
          generalize ha1 : s'.a + s'.b + Dig.at4 M (r % 4) + (K + Dig.golden) = a1
          replace ha1 := Lib.hid ha1
          refine (rdig_rot32 _ _).mono ?_
          rintro e _ ⟨rfl, n1, rfl⟩
          go_wp2_with fail
          generalize hd1 : Dig.rot (s'.d ^^^ a1) 32 = d1
          generalize he1 : s'.c + d1 = e1
          replace hd1 := Lib.hid hd1
          replace he1 := Lib.hid he1
          refine (rdig_rot24 _ _).mono ?_
          rintro e _ ⟨rfl, n2, rfl⟩
          go_wp2_with fail
          generalize hb1 : Dig.rot (s'.b ^^^ e1) 24 = b1
          generalize ha2 : a1 + b1 = a2
          replace hb1 := Lib.hid hb1
          replace ha2 := Lib.hid ha2
          refine (rdig_rot16 _ _).mono ?_
          rintro e _ ⟨rfl, n3, rfl⟩
          go_wp2_with fail
          generalize hd2 : Dig.rot (d1 ^^^ a2) 16 = d2
          generalize he2 : e1 + d2 = e2
          replace hd2 := Lib.hid hd2
          replace he2 := Lib.hid he2
          refine (rdig_rot63 _ _).mono ?_
          rintro e _ ⟨rfl, n4, rfl⟩
          go_wp2_with fail
          have hro := hro.out
          have hrd : Dig.round s' (Dig.at4 M (r % 4)) (K + Dig.golden) = ⟨Dig.rot (b1 ^^^ e2) 63, e2, d2, a2⟩ := by
            rw [← he2.out, ← hd2.out, ← ha2.out, ← hb1.out, ← he1.out, ← hd1.out, ← ha1.out]
            unfold Dig.round
            rw [show s'.a + (s'.b + Dig.at4 M (r % 4) + (K + Dig.golden)) = s'.a + s'.b + Dig.at4 M (r % 4) + (K + Dig.golden) by simp only [UInt64.add_assoc]]
          rw [hrd] at hro
          refine ⟨⟨r + 1, ⟨Dig.rot (b1 ^^^ e2) 63, e2, d2, a2⟩, K + Dig.golden, by omega, by go_num, rfl, rfl, rfl, rfl, rfl, hro, hx.out.drewN _⟩, by simp [intOf]; omega⟩
        · obtain rfl : r = 8 := by omega
          have hmix : Dig.absorb (j + 1) Dig.begun T = Dig.xor4 s' S := by
            rw [Dig.absorb_succ, HS.out]
            unfold Dig.mixed
            rw [HM.out, hro]
            rfl
          clear hro
          have c0 : wr.cell? ⟨gp, 0, none⟩ = some (.int .u64 (Dig.v S.a)) := hx.2.1.at_ 0 (by omega)
          have c1 : wr.cell? ⟨gp, 1, none⟩ = some (.int .u64 (Dig.v S.b)) := hx.2.1.at_ 1 (by omega)
          have c2 : wr.cell? ⟨gp, 2, none⟩ = some (.int .u64 (Dig.v S.c)) := hx.2.1.at_ 2 (by omega)
          have c3 : wr.cell? ⟨gp, 3, none⟩ = some (.int .u64 (Dig.v S.d)) := hx.2.1.at_ 3 (by omega)
          replace hx := Lib.hid hx
          replace hmix := Lib.hid hmix
          go_wp2_with fail
          go_still_tail 20, (by kernel_rfl)
          change wpList _ _ _ _ _ wr.drew
          go_wp2_with fail
          have hrow := Row4.new' wr (s'.a ^^^ S.a) (s'.b ^^^ S.b) (s'.c ^^^ S.c) (s'.d ^^^ S.d) 68
          have hbn := (Below.refl wr.heap.size wr).alloc (Nat.le_refl _) (.cells #[.int .u64 (Dig.v (s'.a ^^^ S.a)), .int .u64 (Dig.v (s'.b ^^^ S.b)), .int .u64 (Dig.v (s'.c ^^^ S.c)), .int .u64 (Dig.v (s'.d ^^^ S.d))] 68)
          have hx := hx.out
          refine ⟨⟨j + 1, by go_num, _, rfl, hj2, ?_, (hx.2.2.2.1.step hbn).drew, (hx.2.2.2.2.1.below hbn hx.2.2.2.2.1.lt).drew, (hx.2.2.2.2.2.trans (hbn.mono hx.2.2.2.2.2.size)).drew⟩, by simp [intOf]; omega⟩
          rw [hmix.out]
          exact ⟨by simp, fun i hi => hrow.2 i hi⟩
    · have hj : j = T.length / 32 := by omega
      rw [← hj] at hof
      have hlt' : ¬ (32 * (j : Int) < (T.length : Int)) := by omega
      have hF := hof.out
      generalize Dig.absorb j Dig.begun T = F at *
      replace hF := Lib.hid hF
      clear hof hpm hj
      have hdl := hd.lt
      have hz := Lib.hid ((Blk.zeros wr _ 30 rfl).eq (cs' := row32 (outI F 0)) rfl)
      replace hs := Lib.hid hs
      replace hd := Lib.hid hd
      replace hB := Lib.hid hB
      clear hT
      go_wp2_with fail
      refine code_at (OutA w wr.heap.size gs F 0) ⟨hz.out, hs.out.below ((Below.refl _ _).alloc (Nat.le_refl _) _), hd.out.alloc _, hB.out.alloc (by omega) _⟩ ?_
      clear hz hs hd hB
      generalize wr.heap.size = D at *
      intro wo ho
      go_loopw [17] (fun i wx => ∃ k : Nat, k ≤ 32 ∧ i = .int .i64 k ∧ OutA w D gs F k wx) (fun i _ => 32 - (intOf i).toNat)
      case atStart => exact ⟨0, by omega, rfl, ho⟩
      case round =>
        clear ho
        obtain ⟨k, hk, rfl, h0, h1, h2, h3⟩ := hrel
        by_cases hlk : k < 32
        · have c1 := h1.at_ (k / 8) (by omega)
          have ⟨v0, hv0⟩ : ∃ v, (row32 (outI F k))[k]? = some v := ⟨_, Array.getElem?_eq_getElem (by rw [row32_size (outI_length F k hk)]; exact hlk)⟩
          have c0 := (h0.cell k).trans hv0
          have f0 := h0.frozen k
          clear hv0
          replace h0 := Lib.hid h0
          replace h1 := Lib.hid h1
          replace h2 := Lib.hid h2
          replace h3 := Lib.hid h3
          have q1 : ((k : Int) / 8).toNat = k / 8 := by omega
          have q2 : (56 - 8 * ((k : Int) % 8)).toNat = 56 - 8 * (k % 8) := by omega
          have q3 : (k : Int) / 8 < 4 := by omega
          have q4 : 0 ≤ (k : Int) / 8 := by omega
          go_wp2_with fail
          have hn0 := h0.out.set_ k (.int .u8 (Dig.v (Dig.at4 F (k / 8)) / 2 ^ (56 - 8 * (k % 8)) % 256))
          rw [outI_set F k hlk _ rfl] at hn0
          have hgsD := h1.out.1
          refine ⟨⟨k + 1, by omega, by go_num, hn0, h1.out.setCell (Nat.le_refl _) _, h2.out.far (by simp; omega) _, h3.out.setCell (Nat.le_of_lt hdl) _⟩, by simp [intOf]; omega⟩
        · obtain rfl : k = 32 := by omega
          have h32 : outI F 32 = Dig.out F := by simp [outI, List.take_of_length_le (Nat.le_of_eq (Dig.out_length F))]
          rw [h32] at h0
          have ho' := row32_size (Dig.out_length F)
          replace h0 := Lib.hid h0
          replace h2 := Lib.hid h2
          replace h3 := Lib.hid h3
          clear h1
          go_wp2_with (first
            | (refine wpList_load_row rfl 30 _ rfl _ rfl _ (row32 (Dig.out F)) _ _ h0.out Try.underlying30 rfl (by rw [ho']; exact info_digest) ?_)
            | (refine wpList_store_row rfl 30 _ _ rfl w.heap.size (row32 (Dig.out F)) rfl rfl _ _ h2.out (by rw [ho']; exact info_digest) (by rw [ho']; rfl) (row32_one _) ?_))
          exact bodyPost_ret (v := digV (Dig.out F)) (results_cell_row rfl _ _ w.heap.size _ (row32 (Dig.out F)) _ _ rfl (h2.out.row _) Try.underlying30 rfl (by rw [ho']; exact info_digest)) rfl ⟨by rw [hF.out], below_row h3.out (Nat.le_refl _) _⟩
end Go.Proofs.Ytioanppnkhiokaa
