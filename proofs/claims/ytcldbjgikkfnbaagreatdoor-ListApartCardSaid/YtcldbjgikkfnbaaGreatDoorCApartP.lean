/-
  What ListApart's walk carries. Conditions: none.
-/
import Derived.Test.YtcldbjgikkfnbaaGreatDoorCTakeW
import Derived.Test.YtcldbjgikkfnbaaGreatDoorCHeldW
import Derived.Test.YtcldbjgikkfnbaaGreatDoorCRefWork11
import Derived.Test.YtcldbjgikkfnbaaGreatDoorCLiesZ
namespace Go.Proofs.YtcldbjgikkfnbaaGreatDoor
open Go.RowKit
set_option linter.unusedVariables false

/-- A value that was answered, or none. -/
def Told (S : Nat → Prop) (w : World) (v : Value) : Prop := v = .nilIface ∨ ∃ x : Vl, x.sep w S v ∧ x.count ≤ 65536
theorem Told.below {S : Nat → Prop} {w w' : World} {v : Value} (h : Told S w v) (hb : Below w.heap.size w w') (hS : ∀ b, S b → b < w.heap.size) : Told S w' v :=
  h.imp id (fun ⟨x, h1, h2⟩ => ⟨x, h1.below hb hS, h2⟩)
theorem Told.savT {S T : Nat → Prop} {w w' : World} {v : Value} (h : Told T w v) (hb : SavT S w w') (hT : ∀ k, T k → k < w.heap.size ∧ ¬ S k) : Told T w' v :=
  h.imp id (fun ⟨x, h1, h2⟩ => ⟨x, h1.savT hb hT, h2⟩)
theorem Told.form {S : Nat → Prop} {w : World} {v : Value} (h : Told S w v) : v = .nilIface ∨ ∃ t y, v = .iface t y := by
  rcases h with h | ⟨x, h, _⟩
  · exact .inl h
  · exact .inr h.iface
theorem take_told (S D : Nat → Prop) (B Q : Nat) (bv : Value) (es : List Ent) (v : Value) (w : World) (hv : Told S w v) (hS : ∀ b, S b → b < w.heap.size) (hSB : ∀ b, S b → B ≤ b) (hB : BookAt w B Q bv es D) (hSD : ∀ b, S b → ¬ D b) (hes : es.length ≤ 9000000) :
    Calls Tryz.prog 19 #[.pointer (some ⟨Q, 0, none⟩), v] w (TakePost S D B Q es 65536 w) := by
  rcases hv with rfl | ⟨x, hx, hc⟩
  · exact take_nil _ Q S D B bv es w hB hS
  · refine (take_all x S D B Q bv es v w hx hS hSB hc hB hSD (by omega)).mono ?_
    rintro e w' ⟨h1, v', es', h2, h3, h4⟩
    exact ⟨h1, v', es', h2, by omega, h4⟩
def WorkTo (f : Int) (w : World) (e : Ending) (w' : World) : Prop := ∃ v, e = .returned (.tuple #[v, .int .i64 f, .string ⟨#[]⟩]) ∧ Told (fresh w w') w' v ∧ Below w.heap.size w w'
def RefTo' (f : Int) (w : World) (e : Ending) (w' : World) : Prop := ∃ (p : Pl) (A : Option Addr) (c : Nat), e = .returned (.tuple #[.agg #[.int .i64 p.kind, .int .i64 p.num, .string p.text, .slice A p.list.length c], .int .i64 f, .string ⟨#[]⟩]) ∧ Below w.heap.size w w'
structure ApartOp (op : ByteArray) (ps : List Pl) (A : Option Addr) (c : Nat) (w : World) (f : Int) : Prop where
  work : ∀ w', Below w.heap.size w w' → Calls Tryz.prog 12 #[.string op, .slice A ps.length c] w' (WorkTo f w')
  ref : ∀ w', Below w.heap.size w w' → Calls Tryz.prog 17 #[.string op, .slice A ps.length c] w' (RefTo' f w')
theorem apart_op (op : ByteArray) (ps : List Pl) (A : Option Addr) (c : Nat) (w : World) (hlen : ps.length * 56 ≤ 140737488351232) (hl : Pls.lies w w.heap.size ps A) (hcaps : CapsAt w ps A) : ∃ f, ApartOp op ps A c w f := by
  have hg := goodR_lWork op ps (plies_fine hl)
  refine ⟨(lWork op ps).1, ?_, ?_⟩
  · intro w' hb
    refine (list_Work op ps A c w' hlen (hl.below hb hb.size)).mono ?_
    rintro e w'' ⟨v, rfl, h1, h2, h3⟩
    refine ⟨v, rfl, ?_, h3⟩
    by_cases h0 : (lWork op ps).1 = 0
    · exact .inr ⟨_, h1 h0, (hg h0).2.1⟩
    · exact .inl (h2 h0)
  · intro w' hb
    refine (ref11_Work op ps A c w' hlen (hl.below hb hb.size) (hcaps.below hl hb)).mono ?_
    rintro e w'' ⟨A2, c2, rfl, h1, h2⟩
    exact ⟨(toR (lWork op ps)).2, A2, c2, rfl, h2⟩
/-- The first value in all places. -/
structure SameI (B6 P5 P6 : Nat) (op : ByteArray) (n : Nat) (A : Option Addr) (c : Nat) (w6 : World) (x : PlAt) (k : Nat) (s : Value) (wr : World) : Prop where
  b5 : wr.heap[P5]? = some (.cells #[.string op, .slice A n c] 27 (0, 0))
  b6 : wr.heap[P6]? = some (.cells #[.string op, s] 27 (0, 0))
  own : wr.ownsRow B6 31 4 s k ((List.replicate k x).flatMap PlAt.cells)
  bel : ∀ b, b < B6 → b ≠ P6 → wr.heap[b]? = w6.heap[b]?
  sys : wr.os = w6.os ∧ wr.tape = w6.tape ∧ wr.output = w6.output ∧ w6.heap.size ≤ wr.heap.size
theorem rep_cells (x : PlAt) (k : Nat) : (List.replicate (k + 1) x).flatMap PlAt.cells = (List.replicate k x).flatMap PlAt.cells ++ x.cells := by
  rw [List.replicate_succ', List.flatMap_append]; simp
theorem SameI.step {B6 P5 P6 n c k g cap : Nat} {op : ByteArray} {A : Option Addr} {w6 wr w1 w2 : World} {x : PlAt} {s : Value} {o : Obj} (h : SameI B6 P5 P6 op n A c w6 x k s wr) (h5 : P5 < B6) (h6 : P6 < B6) (h56 : P5 ≠ P6) (hB : B6 ≤ wr.heap.size)
    (hg : (wr.alloc o).grownBy w2 s.ownBlock) (hown : w2.ownsRow B6 31 4 (.slice (some ⟨g, 0, none⟩) (k + 1) cap) (k + 1) ((List.replicate k x).flatMap PlAt.cells ++ x.cells)) :
    SameI B6 P5 P6 op n A c w6 x (k + 1) (.slice (some ⟨g, 0, none⟩) (k + 1) cap) (w2.setCell ⟨P6, 1, none⟩ (.slice (some ⟨g, 0, none⟩) (k + 1) cap)) ∧ w2.heap[P6]? = some (.cells #[.string op, s] 27 (0, 0)) := by
  have hs : ∀ b, s.ownBlock = some b → B6 ≤ b := fun b e => (h.own.lt b e).1
  have hblk : ∀ b, b < B6 → w2.heap[b]? = wr.heap[b]? := fun b hb => (hg.block b (by rw [size_alloc]; omega) (fun e => by have := hs b e.symm; omega)).trans (Below.heap_alloc _ _ _ (by omega))
  have h62 := (hblk P6 h6).trans h.b6
  have hsz := hg.size
  rw [size_alloc] at hsz
  refine ⟨⟨?_, blk_set h62 1 _, ?_, fun b hb hne => ?_, hg.os.trans h.sys.1, hg.tape.trans h.sys.2.1, hg.output.trans h.sys.2.2.1, ?_⟩, h62⟩
  · rw [Below.heap_setCell _ _ _ _ (by exact h56), hblk P5 h5]; exact h.b5
  · rw [rep_cells]
    exact own_block hown (fun b hb => Below.heap_setCell _ _ _ _ (fun e => by have := (hown.lt b hb).1; have e' : b = P6 := e; omega))
  · rw [Below.heap_setCell _ _ _ _ (by exact hne), hblk b hb]; exact h.bel b hb hne
  · rw [size_set]; have := h.sys.2.2.2; omega
theorem same_ready {B6 P5 P6 n c : Nat} {op : ByteArray} {A : Option Addr} {w6 wr : World} {x : PlAt} {s : Value} {m : Nat} (h : SameI B6 P5 P6 op n A c w6 x m s wr) (hm : 0 < m) (hs : x.p.sane) (hl : Pls.lies wr wr.heap.size x.p.list x.A) (hc : x.p.list.length ≤ x.c) :
    ∃ g c6, s = .slice (some ⟨g, 0, none⟩) m c6 ∧ Pls.lies wr wr.heap.size (List.replicate m x.p) (some ⟨g, 0, none⟩) ∧ CapsAt wr (List.replicate m x.p) (some ⟨g, 0, none⟩) := by
  rcases h.own.2 with ⟨_, h0⟩ | ⟨g, cap, cur, e, _⟩
  · omega
  · subst e
    have hown := h.own
    have hlt := (hown.lt g rfl).2
    have hcells : ∀ k (hk : k < (List.replicate m x).length) j u, (List.replicate m x)[k].cells[j]? = some u → wr.cell? ⟨g, 0 + (k * 4 + j), none⟩ = some u := fun k hk j u hj => by
      have hj4 : j < 4 := by
        rcases Nat.lt_or_ge j 4 with h | h
        · exact h
        · rw [List.getElem?_eq_none (by exact h)] at hj; cases hj
      rw [List.length_replicate] at hk
      rw [Nat.zero_add, hown.cellAt (k * 4 + j) (by omega), plat_flat (List.replicate m x) k (by rw [List.length_replicate]; exact hk) j hj4]
      exact hj
    refine ⟨g, cap, rfl, ?_, ?_⟩
    · have := plies_of hlt (List.replicate m x) 0 hcells (fun y hy => by rw [List.eq_of_mem_replicate hy]; exact ⟨hs, hl⟩)
      rwa [List.map_replicate] at this
    · intro b o hb j hj A' n' c' hcell
      injection hb with hb
      injection hb with hb ho _
      subst hb ho
      rw [List.length_replicate] at hj
      have := hcells j (by rw [List.length_replicate]; exact hj) 3 (.slice x.A x.p.list.length x.c) (by rw [List.getElem_replicate]; rfl)
      have e : 0 + j * 4 + 3 = 0 + (j * 4 + 3) := by omega
      rw [e, this] at hcell
      injection hcell with hcell
      injection hcell with _ h1 h2
      omega
theorem SameI.below {B6 P5 P6 n c k B : Nat} {op : ByteArray} {A : Option Addr} {w w6 wr : World} {x : PlAt} {s : Value} (h : SameI B6 P5 P6 op n A c w6 x k s wr) (hb : Below B w w6) (hB : B ≤ B6) (hP : B ≤ P6) : Below B w wr :=
  hb.trans ⟨h.sys.1, h.sys.2.1, h.sys.2.2.1, h.sys.2.2.2, fun b hlt => h.bel b (by omega) (by omega)⟩
def LM : Nat := 131072
def lim (k : Nat) : Nat := k * LM
theorem lim_succ (k : Nat) : lim (k + 1) = lim k + LM := Nat.succ_mul k LM
theorem lm_le : 65536 + 65536 ≤ LM := by decide
theorem lm_20 : 20 * LM ≤ 2700000 := by decide
theorem lim_next {k x : Nat} (h : x ≤ lim k) : x ≤ lim (k + 1) := by rw [lim_succ]; exact Nat.le_trans h (Nat.le_add_right _ _)
theorem lim_add {k x a b : Nat} (h : x ≤ lim k) (ha : a ≤ 65536) (hb : b ≤ 65536) : x + a + b ≤ lim (k + 1) := by
  rw [lim_succ, Nat.add_assoc]
  exact Nat.add_le_add h (Nat.le_trans (Nat.add_le_add ha hb) lm_le)
theorem lim_20 {k x : Nat} (h : x ≤ lim k) (hk : k ≤ 20) : x ≤ 2700000 := Nat.le_trans h (Nat.le_trans (Nat.mul_le_mul_right LM hk) lm_20)
end Go.Proofs.YtcldbjgikkfnbaaGreatDoor
