/-
  Part 1 of 8 of a proof, several texts in a row: Base, NumPlain, Plains, Fresh, PlMarks, PlTwin, PlOpen. Conditions: each text names its own.
-/
import Derived.WalkKit
import Derived.WalkSpells
import Derived.WalkLawsBesides
import Derived.ProofKit
import Derived.OpenShut
import Derived.Deep.QuietTactic
import Derived.BigQuiet
import Derived.Below
import Derived.ChangeSame
import Derived.Lib.Hide
import Derived.Maps.AppendAt
import Derived.RowKit
import Derived.Test.YtcdjnkeomaidaaaGreatProg
import Derived.Deep.AppendLies
import Derived.OwnWalk
import Derived.Lib.Strings
import Derived.Deep.Slices
/-
  Small laws over any program, for the proofs of this seat: worlds with new blocks; a region that draws its order and whose operations read old memory or make new; the row's last step. Conditions: none.
-/
namespace Go.Proofs.YtcdjnkeomaidaaaGreat
open Go.RowKit Go.WideShapes Go.ChangeShapes

section
variable {H : Type} {enc : TypeId × Value → H} {P : Program}
theorem post_of_below {f : Func} {s : ChangeSpec} {apart fresh handsOn again : Bool} {W W' : World} {args : Array Value} {v : Value} {ds gs : List (DataW H)} {before pa pv : List MemPlace}
    (hW : DataW.Whole enc P f.params.toList s.vars apart W args.toList ds gs before)
    (hres : ∀ (b : Nat) (sp : Nat → Bool) (hd : Bool), DataW.TrodAll enc P W' b sp hd f.resultTypes.toList (v.resultList f.resultTypes.size) (s.fn H (ds ++ gs)).results [])
    (hargs : ∀ sp : Nat → Bool, (∀ p ∈ before, sp p.block = true) → DataW.TrodAll enc P W' 0 sp true f.params.toList args.toList (s.fn H (ds ++ gs)).args pa)
    (hvars : ∀ sp : Nat → Bool, (∀ p ∈ before, sp p.block = true) → DataW.TrodVars enc P W' sp s.vars (s.fn H (ds ++ gs)).vars pv)
    (hps : before = pa ++ pv) (hb : Below W.heap.size W W')
    (hok : ∀ (j : Nat) (t : TypeId) (r : Value), f.resultTypes[j]? = some t → (v.resultList f.resultTypes.size)[j]? = some r → Value.okWide P W' .any 0 t r) :
    s.post enc P f apart fresh handsOn again W args v W' := by
  have hlt : ∀ p ∈ before, p.block < W.heap.size := fun p hp => hW.lt p hp
  have hold : ∀ p ∈ before, (fun b => decide (b < W.heap.size)) p.block = true := fun p hp => by simpa using hlt p hp
  refine ⟨ds, gs, before, [], pa, pv, hW, hres _ _ _, hargs _ hold, hvars _ hold, World.keptBut_mono (fun p hp => ⟨hp, ?_⟩) (hb.frame (· ∈ before)), fun _ => ?_⟩
  · rw [hps, List.mem_append] at hp
    exact Or.inr hp
  · obtain ⟨_, _, _, _, _, hz, hn⟩ := hW
    refine ⟨hok, _, _, ([] ++ pa) ++ pv, ⟨[] ++ pa, pv, trodAll_append (hargs _ (fun _ _ => rfl)) (hres _ _ _), hvars _ (fun _ _ => rfl), rfl, ?_, ?_⟩, ?_⟩
    · intro b off hp
      have hin : MemPlace.cell b off ∈ before := by rw [hps]; simpa using hp
      rw [hb.frozen (hlt _ hin)]
      exact hz b off hin
    · intro ha
      have := hn ha
      rw [hps] at this
      simpa using this
    · intro p hp _
      rw [hps]
      simpa using hp
end

/-- The worlds that are 'w' with new blocks. -/
structure Ext (w : World) where
  now : World
  ok : Below w.heap.size w now
instance (w : World) : Nonempty (Ext w) := ⟨⟨w, Below.refl _ _⟩⟩
theorem Ext.cell {w : World} {p : Addr} {v : Value} (h : w.cell? p = some v) (x : Ext w) : x.now.cell? p = some v := by
  rw [x.ok.cell (World.block_lt_of_cell? _ _ h)]; exact h
/-- A region that draws its order, whose operations read old memory, and whose callees hand back known values and at most make new memory: one walk, in the text's order. -/
theorem wp_region_ext {P : Program} {id : Nat} {Q : Exit → Act → World → Prop} {a : Act} {w : World} {l : List Oper} (hm : P.follows .mixedOrders = true) (hB : Region.lexB .any l.toArray = true)
    (h : wpQuiet P l.toArray (fun w' => ∃ x : Ext w, w' = x.now) (fun a' => ∀ w', (∃ x : Ext w, w' = x.now) → Q .normal a' w') l a) : (Code.region id l.toArray true).wp P Q a w :=
  wp_region_quiet (C := fun w' => ∃ x : Ext w, w' = x.now) hm hB ⟨⟨_, (Below.refl _ _).drew⟩, rfl⟩ (by simpa using h)
theorem Calls.ext_of {P : Program} {f : FuncId} {args : Array Value} {w : World} {x : Ext w} {v : Value}
    (h : Calls P f args x.now fun e w' => e = .returned v ∧ Below x.now.heap.size x.now w') : Calls P f args x.now fun e w'' => e = .returned v ∧ ∃ y : Ext w, w'' = y.now :=
  h.mono fun _ _ ⟨he, hb⟩ => ⟨he, ⟨_, x.ok.trans (hb.mono x.ok.size)⟩, rfl⟩
theorem Calls.ext_of_same {P : Program} {f : FuncId} {args : Array Value} {w : World} {x : Ext w} {v : Value}
    (h : Calls P f args x.now fun e w' => e = .returned v ∧ x.now = w') : Calls P f args x.now fun e w'' => e = .returned v ∧ ∃ y : Ext w, w'' = y.now :=
  h.mono fun _ _ ⟨he, hb⟩ => ⟨he, x, hb.symm⟩
/-- What stands behind is shown of every world that meets R. -/
theorem gen {P : Program} {c : Code} {Q : Exit → Act → World → Prop} {a : Act} {w : World} (R : World → Prop) (h : R w) (k : ∀ w', R w' → c.wp P Q a w') : c.wp P Q a w := k w h
theorem ret_int {k : IntKind} {a b : Int} (h : a = b) : Ending.returned (.int k a) = .returned (.int k b) := by rw [h]
theorem ret_bool {a b : Bool} (h : a = b) : Ending.returned (.bool a) = .returned (.bool b) := by rw [h]
theorem size_alloc (w : World) (o : Obj) : (w.alloc o).heap.size = w.heap.size + 1 := by simp
theorem alloc_cell {w : World} {p : Addr} {x : Value} (o : Obj) (g : w.cell? p = some x) : (w.alloc o).cell? p = some x := (World.cell?_alloc_lt _ _ _ (World.block_lt_of_cell? _ _ g)).trans g

/-- An assertion to a type that is no interface, two-valued: met, not met. -/
theorem run_assert_hit {P : Program} {x t : TypeId} {d : TypeDesc} (hu : P.underlying t = some d) (hd : (match d with | .interface _ => false | _ => true) = true) (v : Value) (w : World) :
    (Instr.typeAssert (.iface t v) x t true).run P w = .ok (.tuple #[v, .bool true]) w := by
  unfold Instr.typeAssert
  cases d <;> simp_all [run_underlying hu]
theorem run_assert_miss {P : Program} {x t t' : TypeId} {d : TypeDesc} {z : Value} (hu : P.underlying t = some d) (hd : (match d with | .interface _ => false | _ => true) = true) (hz : ∀ w, (zeroValue t).run P w = .ok z w) (hne : t' ≠ t) (v : Value) (w : World) :
    (Instr.typeAssert (.iface t' v) x t true).run P w = .ok (.tuple #[z, .bool false]) w := by
  unfold Instr.typeAssert
  cases d <;> simp_all [run_underlying hu]

theorem heap_alloc2 (w : World) (o o' : Obj) : ((w.alloc o).alloc o').heap[w.heap.size]? = some o ∧ ((w.alloc o).alloc o').heap[w.heap.size + 1]? = some o' := by
  refine ⟨?_, ?_⟩
  · rw [Below.heap_alloc _ _ _ (by simp)]; exact heap_alloc_new w o
  · have := heap_alloc_new (w.alloc o) o'
    rwa [size_alloc] at this
theorem grown_on {a w w' : World} {row : Option Nat} (h : a.grownBy w row) (g : w.grownBy w' row) : a.grownBy w' row :=
  ⟨g.os.trans h.os, g.tape.trans h.tape, g.output.trans h.output, Nat.le_trans h.size g.size, fun k hk hne => (g.block k (Nat.lt_of_lt_of_le hk h.size) hne).trans (h.block k hk hne)⟩
theorem grown_drew {a w : World} {row : Option Nat} (h : a.grownBy w row) : a.grownBy w.drew row := ⟨h.os, h.tape, h.output, h.size, h.block⟩

theorem own_below {w w' : World} {base : Nat} {e : TypeId} {size : Nat} {v : Value} {n : Nat} {xs : List Value} (h : w.ownsRow base e size v n xs) (hb : Below w.heap.size w w') : w'.ownsRow base e size v n xs :=
  h.kept (row := none) ⟨hb.os, hb.tape, hb.output, hb.size, fun k hk _ => hb.block k hk⟩ (by cases hv : v.ownBlock <;> simp)
theorem own_lt {w : World} {base : Nat} {e : TypeId} {size g n c : Nat} {xs : List Value} (h : w.ownsRow base e size (.slice (some ⟨g, 0, none⟩) n c) n xs) : g < w.heap.size := (h.lt g rfl).2
/-- The cell of a literal of one element. -/
theorem one_new (w : World) (v : Value) (t : TypeId) : ∀ (j : Nat) (u : Value), [v][j]? = some u → (w.alloc (.cells #[v] t)).cell? ((⟨w.heap.size, 0, none⟩ : Addr).add j) = some u := by
  intro j u hj
  match j, hj with
  | 0, hj => simp at hj; subst hj; simp [Addr.add, World.cell?_alloc_new]

/-- A block laid, a callee that makes memory, a block laid, an append to row g: what was there, but for g, is there. -/
theorem step_cells {wr w2 w3 : World} {X Y : Obj} {g : Nat} (hb2 : Below (wr.alloc X).heap.size (wr.alloc X) w2) (hgr : (w2.alloc Y).grownBy w3 (some g)) :
    (∀ b o, b ≠ g → b < wr.heap.size → w3.cell? ⟨b, o, none⟩ = wr.cell? ⟨b, o, none⟩) ∧ (∀ b o, b ≠ g → b < w2.heap.size → w3.cell? ⟨b, o, none⟩ = w2.cell? ⟨b, o, none⟩) ∧ wr.heap.size < w2.heap.size ∧ w2.heap.size < w3.heap.size := by
  have hs := hb2.size
  have hs3 := hgr.size
  rw [size_alloc] at hs hs3
  have h2 : ∀ b o, b ≠ g → b < w2.heap.size → w3.cell? ⟨b, o, none⟩ = w2.cell? ⟨b, o, none⟩ := fun b o hne hb => by
    rw [World.cell?_of_block (a := ⟨b, o, none⟩) (hgr.block b (by rw [size_alloc]; omega) (by simpa using hne)), World.cell?_alloc_lt _ _ _ hb]
  refine ⟨fun b o hne hb => ?_, h2, hs, hs3⟩
  rw [h2 b o hne (by omega), hb2.cell (p := ⟨b, o, none⟩) (by simp; omega), World.cell?_alloc_lt _ _ _ hb]

theorem below_drewN {B : Nat} {a w : World} (h : Below B a w) (n : Nat) : Below B a (w.drewN n) := ⟨h.os, h.tape, h.output, h.size, h.block⟩
/-- What a call gives: a value, and new memory at most. -/
def Bel (v : Value) (w : World) (e : Ending) (w' : World) : Prop := e = .returned v ∧ Below w.heap.size w w'
theorem bel_then {v : Value} {w w1 : World} {e : Ending} {w' : World} (h1 : Below w.heap.size w w1) (h : Bel v w1 e w') : Bel v w e w' := ⟨h.1, h1.trans (h.2.mono h1.size)⟩

/-- A cell of a block that was laid before a callee ran. -/
theorem box_cell {w w1 : World} {cs : Array Value} {T : TypeId} {B : Nat} (hb : Below B (w.alloc (.cells cs T)) w1) (hB : w.heap.size < B) (j : Nat) : w1.cell? ⟨w.heap.size, j, none⟩ = cs[j]? :=
  (hb.cell (p := ⟨w.heap.size, j, none⟩) hB).trans (World.cell?_alloc_new _ _ _ _)
end Go.Proofs.YtcdjnkeomaidaaaGreat

/-
  Plain numbers, no program: what the operations of package num come to. Conditions: none.
-/
namespace Go.Proofs.YtcdjnkeomaidaaaGreat

/-- A number of 64 bits. -/
def rng (n : Int) : Bool := decide (-9223372036854775808 ≤ n ∧ n ≤ 9223372036854775807)
theorem rng_iff {n : Int} : rng n = true ↔ -9223372036854775808 ≤ n ∧ n ≤ 9223372036854775807 := by simp [rng]
theorem rng_not {n : Int} : rng n = false ↔ (n < -9223372036854775808 ∨ 9223372036854775807 < n) := by simp only [rng, decide_eq_false_iff_not]; omega

theorem sq_ne (m : Nat) : m * m ≠ 9223372036854775808 := by
  intro h
  rcases Nat.lt_or_ge m 3037000500 with hl | hl
  · have : m * m ≤ 3037000499 * 3037000499 := Nat.mul_le_mul (by omega) (by omega)
    omega
  · have : 3037000500 * 3037000500 ≤ m * m := Nat.mul_le_mul hl hl
    omega

/-- The add's test. -/
theorem add_test {a b : Int} (ha : rng a = true) (hb : rng b = true) :
    (decide (a < RowKit.wrap64 (a + b)) == decide (0 < b)) = rng (a + b) := by
  rw [rng_iff] at ha hb
  unfold RowKit.wrap64
  cases h : rng (a + b)
  · rw [rng_not] at h
    rw [beq_eq_false_iff_ne, ne_eq, decide_eq_decide]; omega
  · rw [rng_iff] at h
    rw [beq_iff_eq, decide_eq_decide]; omega
theorem sub_test {a b : Int} (ha : rng a = true) (hb : rng b = true) :
    (decide (RowKit.wrap64 (a - b) < a) == decide (0 < b)) = rng (a - b) := by
  rw [rng_iff] at ha hb
  unfold RowKit.wrap64
  cases h : rng (a - b)
  · rw [rng_not] at h
    rw [beq_eq_false_iff_ne, ne_eq, decide_eq_decide]; omega
  · rw [rng_iff] at h
    rw [beq_iff_eq, decide_eq_decide]; omega
theorem wrap_rng {n : Int} (h : rng n = true) : RowKit.wrap64 n = n := by rw [rng_iff] at h; unfold RowKit.wrap64; omega
/-- The product of two numbers without their signs, in two halves. -/
theorem mul_pos {p : Int} {hi lo : Nat} (hlo : lo < 18446744073709551616) (h : p = (hi * 18446744073709551616 + lo : Nat)) :
    RowKit.wrap64 (lo : Int) = RowKit.wrap64 p ∧ (decide (hi = 0 ∧ lo < 9223372036854775808)) = rng p := by
  refine ⟨by unfold RowKit.wrap64; omega, ?_⟩
  unfold rng; rw [decide_eq_decide]; omega
theorem mul_neg {p : Int} {hi lo : Nat} (hlo : lo < 18446744073709551616) (h : p = -((hi * 18446744073709551616 + lo : Nat) : Int)) :
    RowKit.wrap64 (-RowKit.wrap64 (lo : Int)) = RowKit.wrap64 p ∧ (decide (hi = 0 ∧ lo ≤ 9223372036854775808)) = rng p := by
  refine ⟨by unfold RowKit.wrap64; omega, ?_⟩
  unfold rng; rw [decide_eq_decide]; omega
theorem mul_same {a b : Int} {n : Nat} (h : n = a.natAbs * b.natAbs) (hs : (a < 0 ∧ b < 0) ∨ (¬ a < 0 ∧ ¬ b < 0)) : a * b = n := by
  subst h
  rcases hs with ⟨h1, h2⟩ | ⟨h1, h2⟩
  · rw [Int.natCast_mul, show ((a.natAbs : Nat) : Int) = -a by omega, show ((b.natAbs : Nat) : Int) = -b by omega, Int.neg_mul_neg]
  · rw [Int.natCast_mul, show ((a.natAbs : Nat) : Int) = a by omega, show ((b.natAbs : Nat) : Int) = b by omega]
theorem mul_diff {a b : Int} {n : Nat} (h : n = a.natAbs * b.natAbs) (hs : (a < 0 ∧ ¬ b < 0) ∨ (¬ a < 0 ∧ b < 0)) : a * b = -(n : Int) := by
  subst h
  rcases hs with ⟨h1, h2⟩ | ⟨h1, h2⟩
  · rw [Int.natCast_mul, show ((a.natAbs : Nat) : Int) = -a by omega, show ((b.natAbs : Nat) : Int) = b by omega, Int.neg_mul, Int.neg_neg]
  · rw [Int.natCast_mul, show ((a.natAbs : Nat) : Int) = a by omega, show ((b.natAbs : Nat) : Int) = -b by omega, Int.mul_neg, Int.neg_neg]
theorem natAbs_lt {a : Int} (h : rng a = true) : a.natAbs < 18446744073709551616 := by rw [rng_iff] at h; omega

theorem sq_pow (A : Int) (k : Nat) : (A * A) ^ k = A ^ (2 * k) := by
  induction k with
  | zero => simp
  | succ k ih => rw [Int.pow_succ, ih, show 2 * (k + 1) = 2 * k + 1 + 1 by omega, Int.pow_succ, Int.pow_succ, Int.mul_assoc]
theorem pow_even {A : Int} {n k : Nat} (h : n = 2 * k) : A ^ n = (A * A) ^ k := by rw [sq_pow, h]
theorem pow_odd {A : Int} {n k : Nat} (h : n = 2 * k + 1) : A ^ n = A * (A * A) ^ k := by rw [sq_pow, h, Int.pow_succ, Int.mul_comm]
theorem sq_pos {A : Int} (h : A ≠ 0) : 1 ≤ A * A := by
  have : 0 < A.natAbs * A.natAbs := Nat.mul_pos (by omega) (by omega)
  have e : ((A.natAbs * A.natAbs : Nat) : Int) = A * A := Int.natAbs_mul_self
  omega
theorem pow_pos1 {c : Int} (h : 1 ≤ c) (k : Nat) : 1 ≤ c ^ k := by
  induction k with
  | zero => simp
  | succ k ih =>
    rw [Int.pow_succ]
    have := Int.mul_le_mul ih h (by omega) (by omega)
    omega
theorem out_mul {m c : Int} (ho : rng m = false) (hc : 1 ≤ c) : rng (m * c) = false := by
  rw [rng_not] at ho ⊢
  rcases ho with h | h
  · left
    have := Int.mul_le_mul_of_nonneg_left hc (show 0 ≤ -m by omega)
    rw [Int.neg_mul, Int.mul_one] at this
    have e := Int.neg_mul m c
    omega
  · right
    have := Int.mul_le_mul_of_nonneg_left hc (show 0 ≤ m by omega)
    omega
theorem pow_over_mul {R A P : Int} {k : Nat} (hP : P = R * A * (A * A) ^ k) (ho : rng (R * A) = false) : rng P = false := by
  have hA : A ≠ 0 := by rintro rfl; simp [rng] at ho
  rw [hP]
  exact out_mul ho (pow_pos1 (sq_pos hA) k)
theorem natAbs_pow' (A : Int) (k : Nat) : (A ^ k).natAbs = A.natAbs ^ k := by
  induction k with
  | zero => simp
  | succ k ih => rw [Int.pow_succ, Int.natAbs_mul, ih, Nat.pow_succ]
theorem pow_over_sq {R A P : Int} {k : Nat} (hk : 0 < k) (hP : P = R * (A * A) ^ k) (hR : R ≠ 0) (ho : rng (A * A) = false) : rng P = false := by
  have hA : A ≠ 0 := by rintro rfl; simp [rng] at ho
  have h1 := sq_pos hA
  have h2 : 9223372036854775808 ≤ A * A := by rw [rng_not] at ho; omega
  obtain ⟨j, rfl⟩ : ∃ j, k = j + 1 := ⟨k - 1, by omega⟩
  have h3 : 9223372036854775808 ≤ (A * A) ^ (j + 1) := by
    rw [Int.pow_succ]
    have := Int.mul_le_mul_of_nonneg_right (pow_pos1 h1 j) (show 0 ≤ A * A by omega)
    omega
  have e : ((A ^ (j + 1)).natAbs * (A ^ (j + 1)).natAbs : Nat) = (A * A) ^ (j + 1) := by
    rw [Int.natAbs_mul_self, sq_pow, show 2 * (j + 1) = (j + 1) + (j + 1) by omega, Int.pow_add (m := j + 1) (n := j + 1)]
  have hs := sq_ne (A ^ (j + 1)).natAbs
  generalize hc : (A * A) ^ (j + 1) = c at *
  have h4 : c ≠ 9223372036854775808 := by omega
  rw [hP, rng_not]
  rcases Int.lt_or_gt_of_ne hR with h | h
  · left
    have := Int.mul_le_mul_of_nonneg_right (show R ≤ -1 by omega) (show 0 ≤ c by omega)
    omega
  · right
    have := Int.mul_le_mul_of_nonneg_right (show 1 ≤ R by omega) (show 0 ≤ c by omega)
    omega

theorem tdiv_rng {a b : Int} (ha : rng a = true) (hb : b ≠ 0) (h : ¬ (a = -9223372036854775808 ∧ b = -1)) : rng (a.tdiv b) = true := by
  rw [rng_iff] at ha ⊢
  rcases (show b = 1 ∨ b = -1 ∨ 2 ≤ b.natAbs by omega) with h1 | h1 | h1
  · subst h1; rw [Int.tdiv_one]; exact ha
  · subst h1; rw [Int.tdiv_neg, Int.tdiv_one]; omega
  · have e : (a.tdiv b).natAbs = a.natAbs / b.natAbs := Int.natAbs_tdiv a b
    have h2 : a.natAbs / b.natAbs ≤ a.natAbs / 2 := Nat.div_le_div_left h1 (by omega)
    omega
/-- What 'mod' leaves: of the divisor's sign. -/
def modR (a b : Int) : Int := if a.tmod b ≠ 0 ∧ ¬ (a.tmod b < 0 ↔ b < 0) then a.tmod b + b else a.tmod b
theorem tmod_facts {a b : Int} (hb : b ≠ 0) : a = b * a.tdiv b + a.tmod b ∧ (a.tmod b).natAbs < b.natAbs ∧ (0 ≤ a → 0 ≤ a.tmod b) ∧ (a ≤ 0 → a.tmod b ≤ 0) := by
  refine ⟨(Int.mul_tdiv_add_tmod a b).symm, ?_, fun h => Int.tmod_nonneg b h, fun h => ?_⟩
  · rw [Int.natAbs_tmod]; exact Nat.mod_lt _ (by omega)
  · have := Int.tmod_nonneg b (show 0 ≤ -a by omega)
    rw [Int.neg_tmod] at this
    omega
theorem tmod_m1 (a : Int) : a.tmod (-1) = 0 := by
  have := (tmod_facts (a := a) (b := -1) (by decide)).2.1
  omega
end Go.Proofs.YtcdjnkeomaidaaaGreat

/-
  Plain values as data, how they lie in memory, and whether they may be: no program. Conditions: none.
-/
namespace Go.Proofs.YtcdjnkeomaidaaaGreat
open Go.RowKit

/-- A plain value. -/
inductive Pl where
  | mk (kind num : Int) (text : ByteArray) (list : List Pl)
def Pl.kind : Pl → Int | .mk k _ _ _ => k
def Pl.num : Pl → Int | .mk _ n _ _ => n
def Pl.text : Pl → ByteArray | .mk _ _ t _ => t
def Pl.list : Pl → List Pl | .mk _ _ _ l => l

mutual
/-- Its four cells lie at a place of a block below B, and so on down. -/
def Pl.lies (w : World) (B : Nat) : Pl → Nat → Nat → Prop
  | .mk k n t l, b, o => b < B ∧ w.cell? ⟨b, o, none⟩ = some (.int .i64 k) ∧ w.cell? ⟨b, o + 1, none⟩ = some (.int .i64 n) ∧ w.cell? ⟨b, o + 2, none⟩ = some (.string t) ∧
      rng k = true ∧ rng n = true ∧ t.size ≤ 140737488351232 ∧ l.length * 56 ≤ 140737488351232 ∧ ∃ A c, w.cell? ⟨b, o + 3, none⟩ = some (.slice A l.length c) ∧ Pls.lies w B l A
/-- A row of them from an address on. -/
def Pls.lies (w : World) (B : Nat) : List Pl → Option Addr → Prop
  | [], _ => True
  | p :: ps, A => ∃ b o, A = some ⟨b, o, none⟩ ∧ Pl.lies w B p b o ∧ Pls.lies w B ps (some ⟨b, o + 4, none⟩)
end

mutual
theorem Pl.lies.keep {w w' : World} {B B' : Nat} (hk : ∀ b o, b < B → w'.cell? ⟨b, o, none⟩ = w.cell? ⟨b, o, none⟩) (hB : B ≤ B') : ∀ (p : Pl) (b o : Nat), p.lies w B b o → p.lies w' B' b o
  | .mk k n t l, b, o, h => by
    unfold Pl.lies at h ⊢
    obtain ⟨h0, h1, h2, h3, h4, h5, h6, h7, A, c, h8, h9⟩ := h
    exact ⟨by omega, (hk _ _ h0).trans h1, (hk _ _ h0).trans h2, (hk _ _ h0).trans h3, h4, h5, h6, h7, A, c, (hk _ _ h0).trans h8, Pls.lies.keep hk hB l A h9⟩
theorem Pls.lies.keep {w w' : World} {B B' : Nat} (hk : ∀ b o, b < B → w'.cell? ⟨b, o, none⟩ = w.cell? ⟨b, o, none⟩) (hB : B ≤ B') : ∀ (l : List Pl) (A : Option Addr), Pls.lies w B l A → Pls.lies w' B' l A
  | [], _, _ => by unfold Pls.lies; trivial
  | p :: ps, A, h => by
    unfold Pls.lies at h ⊢
    obtain ⟨b, o, e, h1, h2⟩ := h
    exact ⟨b, o, e, Pl.lies.keep hk hB p b o h1, Pls.lies.keep hk hB ps _ h2⟩
end
theorem Pl.lies.below {w w' : World} {B B' : Nat} {p : Pl} {b o : Nat} (h : p.lies w B b o) (hb : Below B w w') (hB : B ≤ B') : p.lies w' B' b o := h.keep (fun _ _ hh => hb.cell hh) hB
theorem Pls.lies.below {w w' : World} {B B' : Nat} {l : List Pl} {A : Option Addr} (h : Pls.lies w B l A) (hb : Below B w w') (hB : B ≤ B') : Pls.lies w' B' l A := h.keep (fun _ _ hh => hb.cell hh) hB
/-- One of a row. -/
theorem Pls.lies.at_ {w : World} {B : Nat} : ∀ {l : List Pl} {b o : Nat}, Pls.lies w B l (some ⟨b, o, none⟩) → ∀ (k : Nat) (h : k < l.length), l[k].lies w B b (o + k * 4)
  | [], _, _, _, k, h => absurd h (by simp)
  | p :: ps, b, o, hl, k, h => by
    unfold Pls.lies at hl
    obtain ⟨b', o', e, h1, h2⟩ := hl
    simp at e
    obtain ⟨rfl, rfl⟩ := e
    match k with
    | 0 => simpa using h1
    | k + 1 =>
      have := Pls.lies.at_ h2 k (by simpa using h)
      rw [show o + (k + 1) * 4 = o + 4 + k * 4 by omega]
      simpa using this
theorem Pls.lies.head {w : World} {B : Nat} {l : List Pl} {A : Option Addr} (h : Pls.lies w B l A) (hl : 0 < l.length) : ∃ b o, A = some ⟨b, o, none⟩ := by
  match l, h with
  | p :: ps, h =>
    unfold Pls.lies at h
    obtain ⟨b, o, e, _⟩ := h
    exact ⟨b, o, e⟩
theorem Pl.lt_of_mem {p : Pl} {l : List Pl} (k n : Int) (t : ByteArray) (h : p ∈ l) : SizeOf.sizeOf p < SizeOf.sizeOf (Pl.mk k n t l) := by
  have := List.sizeOf_lt_of_mem h
  simp; omega

mutual
/-- What zval's look at a plain value comes to: whether it is of a form that may be, and what is left. -/
def Pl.right : Pl → Int → Int → Bool × Int
  | .mk k n t l, left, deep =>
    if left - 1 < 0 ∨ 64 < deep ∨ (k ≠ 4 ∧ t.size ≠ 0) ∨ (k ≠ 5 ∧ 0 < l.length) then (false, left - 1)
    else if k = 2 then (decide (n = 0 ∨ n = 1), left - 1)
    else if k = 3 then (true, left - 1)
    else if k = 1 ∨ k = 4 then (decide (n = 0 ∧ 0 ≤ left - 1 - t.size), left - 1 - t.size)
    else if k = 5 then (((Pls.right l (left - 1) (deep + 1)).1 && decide (n = 0)), (Pls.right l (left - 1) (deep + 1)).2)
    else (false, left - 1)
/-- .. of one after the other. -/
def Pls.right : List Pl → Int → Int → Bool × Int
  | [], left, _ => (true, left)
  | p :: ps, left, deep => if (p.right left deep).1 then Pls.right ps (p.right left deep).2 deep else (false, (p.right left deep).2)
end

mutual
theorem Pl.right_le : ∀ (p : Pl) (left deep : Int), (p.right left deep).2 ≤ left ∧ ((p.right left deep).1 = true → 0 ≤ (p.right left deep).2)
  | .mk k n t l, left, deep => by
    have ih := Pls.right_le l (left - 1) (deep + 1)
    unfold Pl.right
    by_cases h : left - 1 < 0 ∨ 64 < deep ∨ (k ≠ 4 ∧ t.size ≠ 0) ∨ (k ≠ 5 ∧ 0 < l.length)
    · rw [if_pos h]; exact ⟨by simp only; omega, fun h => by cases h⟩
    · rw [if_neg h]
      by_cases h2 : k = 2
      · rw [if_pos h2]; exact ⟨by simp only; omega, fun _ => by simp only; omega⟩
      · rw [if_neg h2]
        by_cases h3 : k = 3
        · rw [if_pos h3]; exact ⟨by simp only; omega, fun _ => by simp only; omega⟩
        · rw [if_neg h3]
          by_cases h4 : k = 1 ∨ k = 4
          · rw [if_pos h4]; exact ⟨by simp only; omega, fun h => by simp only [decide_eq_true_eq] at h; simp only; omega⟩
          · rw [if_neg h4]
            by_cases h5 : k = 5
            · rw [if_pos h5]
              refine ⟨by have := ih.1; simp only; omega, fun h => ?_⟩
              simp only [Bool.and_eq_true] at h
              exact ih.2 (by omega) h.1
            · rw [if_neg h5]; exact ⟨by simp only; omega, fun h => by cases h⟩
theorem Pls.right_le : ∀ (l : List Pl) (left deep : Int), (Pls.right l left deep).2 ≤ left ∧ (0 ≤ left → (Pls.right l left deep).1 = true → 0 ≤ (Pls.right l left deep).2)
  | [], left, deep => by unfold Pls.right; exact ⟨Int.le_refl _, fun h _ => h⟩
  | p :: ps, left, deep => by
    have h1 := Pl.right_le p left deep
    have h2 := Pls.right_le ps (p.right left deep).2 deep
    unfold Pls.right
    by_cases h : (p.right left deep).1 = true
    · rw [if_pos h]; exact ⟨by omega, fun _ hh => h2.2 (h1.2 h) hh⟩
    · rw [if_neg h]; exact ⟨h1.1, fun _ hh => by cases hh⟩
end
theorem Pls.right_step {l : List Pl} {k : Nat} (h : k < l.length) (left deep : Int) :
    Pls.right (l.drop k) left deep = if (l[k].right left deep).1 then Pls.right (l.drop (k + 1)) (l[k].right left deep).2 deep else (false, (l[k].right left deep).2) := by
  rw [List.drop_eq_getElem_cons h, Pls.right]
theorem Pl.size_lt {k n : Int} {t : ByteArray} {l : List Pl} {j : Nat} (h : j < l.length) : SizeOf.sizeOf l[j] < SizeOf.sizeOf (Pl.mk k n t l) := Pl.lt_of_mem k n t (List.getElem_mem h)
theorem Pl.lies.grown {w w' : World} {B l : Nat} {p : Pl} {b o : Nat} (h : p.lies w B b o) (hg : w.grownBy w' (some l)) (hB : B ≤ l) (hs : B ≤ w.heap.size) : p.lies w' B b o :=
  h.keep (fun b o hb => World.cell?_of_block (hg.block b (by omega) (fun e => by injection e with e; omega))) (Nat.le_refl _)
theorem Pl.lies.drew {w : World} {B : Nat} {p : Pl} {b o : Nat} (h : p.lies w B b o) : p.lies w.drew B b o := h.keep (w := w) (w' := w.drew) (fun _ _ _ => rfl) (Nat.le_refl _)
theorem Pls.lies.drew {w : World} {B : Nat} {l : List Pl} {A : Option Addr} (h : Pls.lies w B l A) : Pls.lies w.drew B l A := h.keep (w := w) (w' := w.drew) (fun _ _ _ => rfl) (Nat.le_refl _)
theorem Pl.lies.parts {w : World} {B : Nat} {p : Pl} {b o : Nat} (h : p.lies w B b o) : b < B ∧ w.cell? ⟨b, o, none⟩ = some (.int .i64 p.kind) ∧ w.cell? ⟨b, o + 1, none⟩ = some (.int .i64 p.num) ∧ w.cell? ⟨b, o + 2, none⟩ = some (.string p.text) ∧
      p.list.length * 56 ≤ 140737488351232 ∧ ∃ A c, w.cell? ⟨b, o + 3, none⟩ = some (.slice A p.list.length c) ∧ Pls.lies w B p.list A := by
  obtain ⟨k, n, t, l⟩ := p
  unfold Pl.lies at h
  obtain ⟨h0, h1, h2, h3, h4, h5, h6, h7, A, c, h8, h9⟩ := h
  exact ⟨h0, h1, h2, h3, h7, A, c, h8, h9⟩
theorem Pl.lies.text {w : World} {B : Nat} {p : Pl} {b o : Nat} (h : p.lies w B b o) : p.text.size ≤ 140737488351232 := by
  obtain ⟨k, n, t, l⟩ := p
  unfold Pl.lies at h
  exact h.2.2.2.2.2.2.1
theorem Pl.lies.nums {w : World} {B : Nat} {p : Pl} {b o : Nat} (h : p.lies w B b o) : rng p.kind = true ∧ rng p.num = true := by
  obtain ⟨k, n, t, l⟩ := p
  unfold Pl.lies at h
  exact ⟨h.2.2.2.2.1, h.2.2.2.2.2.1⟩
/-- A copy of its four cells in a new block. -/
theorem Pl.lies.copy {w : World} {B : Nat} {p : Pl} {b o : Nat} (h : p.lies w B b o) (hB : B ≤ w.heap.size) {A : Option Addr} {c : Nat} (hc : w.cell? ⟨b, o + 3, none⟩ = some (.slice A p.list.length c)) (T : TypeId) :
    p.lies (w.alloc (.cells #[.int .i64 p.kind, .int .i64 p.num, .string p.text, .slice A p.list.length c] T)) (w.heap.size + 1) w.heap.size 0 ∧ Pls.lies w B p.list A := by
  obtain ⟨k, n, t, l⟩ := p
  unfold Pl.lies at h ⊢
  obtain ⟨h0, h1, h2, h3, h4, h5, h6, h7, A', c', h8, h9⟩ := h
  rw [hc] at h8
  injection h8 with h8
  injection h8 with h8 _ h10
  subst h8
  refine ⟨⟨by omega, ?_, ?_, ?_, h4, h5, h6, h7, A, c, ?_, h9.keep (fun b o hb => World.cell?_alloc_lt _ _ _ (by simp; omega)) (by omega)⟩, h9⟩
  all_goals rw [World.cell?_alloc_new]; rfl
end Go.Proofs.YtcdjnkeomaidaaaGreat

/-
  The blocks that a call has made. Conditions: none.
-/
namespace Go.Proofs.YtcdjnkeomaidaaaGreat
/-- The blocks that a call has made. -/
def fresh (w w' : World) (b : Nat) : Prop := w.heap.size ≤ b ∧ b < w'.heap.size
open Go.RowKit
theorem blk_set {w : World} {g : Nat} {t : TypeId} {cs : Array Value} (h : w.heap[g]? = some (.cells cs t (0, 0))) (i : Nat) (u : Value) : (w.setCell ⟨g, i, none⟩ u).heap[g]? = some (.cells (cs.setIfInBounds i u) t (0, 0)) := by
  simp [World.setCell, Array.getElem?_modify, h]
theorem blk_far {w : World} {g : Nat} {o : Obj} (h : w.heap[g]? = some o) {p : Addr} (hp : g ≠ p.block) (u : Value) : (w.setCell p u).heap[g]? = some o := (Below.heap_setCell w p u g hp).trans h
theorem size_set (w : World) (p : Addr) (u : Value) : (w.setCell p u).heap.size = w.heap.size := by simp [World.setCell]
theorem cell_far (w : World) {p : Addr} (u : Value) {b : Nat} (h : b ≠ p.block) (o : Nat) : (w.setCell p u).cell? ⟨b, o, none⟩ = w.cell? ⟨b, o, none⟩ :=
  World.cell?_of_block (a := ⟨b, o, none⟩) (Below.heap_setCell w p u b h)
/-- One result, that lies in a variable. -/
theorem results_cell {P : Program} {fn : Func} {p : Tmp} {ty : TypeId} (h : fn.results = #[.cell p ty]) {tmps : Array Value} {a : Addr} (ht : tmps.getD p undef = .pointer (some a)) {w : World} {v : Value} (hl : (loadVar ty a).run P w = .ok v w) :
    (results fn tmps).run P w = .ok v w := by
  unfold results
  simp only [h]
  have ht' : tmps[p]?.getD undef = .pointer (some a) := by simpa using ht
  simp [ht', asAddr, hl]
end Go.Proofs.YtcdjnkeomaidaaaGreat

/-
  Plain values with a mark behind each of their lists, in memory: no program. Conditions: none.
-/
namespace Go.Proofs.YtcdjnkeomaidaaaGreat
open Go.RowKit
set_option linter.unusedVariables false

/-- The value of a plain one, its list at an address. -/
def Pl.cells4 (p : Pl) (A : Option Addr) (c : Nat) : List Value := [.int .i64 p.kind, .int .i64 p.num, .string p.text, .slice A p.list.length c]
def Pl.arg (p : Pl) (A : Option Addr) (c : Nat) : Value := .agg #[.int .i64 p.kind, .int .i64 p.num, .string p.text, .slice A p.list.length c]
/-- Its own numbers, text and list are within a row's reach. -/
def Pl.sane (p : Pl) : Prop := rng p.kind = true ∧ rng p.num = true ∧ p.text.size ≤ 140737488351232 ∧ p.list.length * 56 ≤ 140737488351232
theorem Pl.lies.sane {w : World} {B : Nat} {p : Pl} {b o : Nat} (h : p.lies w B b o) : p.sane := ⟨h.nums.1, h.nums.2, h.text, h.parts.2.2.2.2.1⟩
mutual
/-- It lies at a place, a mark behind its list and so on down. -/
def Pl.mlies (w : World) (S : Nat → Prop) : Pl → Nat → Nat → Prop
  | .mk k n t l, b, o => S b ∧ (Pl.mk k n t l).sane ∧ ∃ A c, (∀ j u, ((Pl.mk k n t l).cells4 A c)[j]? = some u → w.cell? ⟨b, o + j, none⟩ = some u) ∧ ((A = none ∧ l = []) ∨ ∃ b' o', A = some ⟨b', o', none⟩ ∧ l.length < c ∧ Pls.mtail w S l b' o')
/-- A row of them, and a mark. -/
def Pls.mtail (w : World) (S : Nat → Prop) : List Pl → Nat → Nat → Prop
  | [], b, o => S b ∧ w.cell? ⟨b, o, none⟩ = some (.int .i64 (-7))
  | p :: ps, b, o => Pl.mlies w S p b o ∧ Pls.mtail w S ps b (o + 4)
end
/-- A list is none, or a mark lies behind it. -/
def Marked (w : World) (S : Nat → Prop) (l : List Pl) (A : Option Addr) (c : Nat) : Prop := (A = none ∧ l = []) ∨ ∃ b' o', A = some ⟨b', o', none⟩ ∧ l.length < c ∧ Pls.mtail w S l b' o'
theorem Pl.mlies_iff {w : World} {S : Nat → Prop} {p : Pl} {b o : Nat} : p.mlies w S b o ↔ S b ∧ p.sane ∧ ∃ A c, (∀ j u, (p.cells4 A c)[j]? = some u → w.cell? ⟨b, o + j, none⟩ = some u) ∧ Marked w S p.list A c := by
  obtain ⟨k, n, t, l⟩ := p
  unfold Pl.mlies Marked
  exact Iff.rfl
section
variable {w w' : World} {S S' : Nat → Prop}
mutual
theorem Pl.mlies.keep (hk : ∀ b o, S b → w'.cell? ⟨b, o, none⟩ = w.cell? ⟨b, o, none⟩) (hS : ∀ b, S b → S' b) : ∀ (p : Pl) (b o : Nat), p.mlies w S b o → p.mlies w' S' b o
  | .mk k n t l, b, o, h => by
    unfold Pl.mlies at h ⊢
    obtain ⟨h0, h1, A, c, h2, h3⟩ := h
    refine ⟨hS _ h0, h1, A, c, fun j u hj => (hk _ _ h0).trans (h2 j u hj), ?_⟩
    rcases h3 with h3 | ⟨b', o', h3, h4, h5⟩
    · exact .inl h3
    · exact .inr ⟨b', o', h3, h4, Pls.mtail.keep hk hS l b' o' h5⟩
theorem Pls.mtail.keep (hk : ∀ b o, S b → w'.cell? ⟨b, o, none⟩ = w.cell? ⟨b, o, none⟩) (hS : ∀ b, S b → S' b) : ∀ (l : List Pl) (b o : Nat), Pls.mtail w S l b o → Pls.mtail w' S' l b o
  | [], b, o, h => by
    unfold Pls.mtail at h ⊢
    exact ⟨hS _ h.1, (hk _ _ h.1).trans h.2⟩
  | p :: ps, b, o, h => by
    unfold Pls.mtail at h ⊢
    exact ⟨Pl.mlies.keep hk hS p b o h.1, Pls.mtail.keep hk hS ps b (o + 4) h.2⟩
end
mutual
theorem Pl.mlies.lies {B : Nat} (hS : ∀ b, S b → b < B) : ∀ (p : Pl) (b o : Nat), p.mlies w S b o → p.lies w B b o
  | .mk k n t l, b, o, h => by
    unfold Pl.mlies at h
    unfold Pl.lies
    obtain ⟨h0, h1, A, c, h2, h3⟩ := h
    refine ⟨hS _ h0, h2 0 _ rfl, h2 1 _ rfl, h2 2 _ rfl, h1.1, h1.2.1, h1.2.2.1, h1.2.2.2, A, c, h2 3 _ rfl, ?_⟩
    rcases h3 with ⟨rfl, rfl⟩ | ⟨b', o', rfl, h4, h5⟩
    · unfold Pls.lies; trivial
    · exact Pls.mtail.lies hS l b' o' h5
theorem Pls.mtail.lies {B : Nat} (hS : ∀ b, S b → b < B) : ∀ (l : List Pl) (b o : Nat), Pls.mtail w S l b o → Pls.lies w B l (some ⟨b, o, none⟩)
  | [], b, o, h => by unfold Pls.lies; trivial
  | p :: ps, b, o, h => by
    unfold Pls.mtail at h
    unfold Pls.lies
    exact ⟨b, o, rfl, Pl.mlies.lies hS p b o h.1, Pls.mtail.lies hS ps b (o + 4) h.2⟩
end
theorem Marked.keep {l : List Pl} {A : Option Addr} {c : Nat} (h : Marked w S l A c) (hk : ∀ b o, S b → w'.cell? ⟨b, o, none⟩ = w.cell? ⟨b, o, none⟩) (hS : ∀ b, S b → S' b) : Marked w' S' l A c := by
  rcases h with h | ⟨b', o', h3, h4, h5⟩
  · exact .inl h
  · exact .inr ⟨b', o', h3, h4, Pls.mtail.keep hk hS l b' o' h5⟩
theorem Marked.lies {B : Nat} {l : List Pl} {A : Option Addr} {c : Nat} (h : Marked w S l A c) (hS : ∀ b, S b → b < B) : Pls.lies w B l A := by
  rcases h with ⟨rfl, rfl⟩ | ⟨b', o', rfl, h4, h5⟩
  · unfold Pls.lies; trivial
  · exact Pls.mtail.lies hS l b' o' h5
theorem Pls.mtail.at_ : ∀ {l : List Pl} {b o : Nat}, Pls.mtail w S l b o → ∀ (k : Nat) (h : k < l.length), l[k].mlies w S b (o + k * 4)
  | p :: ps, b, o, hl, 0, h => by
    unfold Pls.mtail at hl
    simpa using hl.1
  | p :: ps, b, o, hl, k + 1, h => by
    unfold Pls.mtail at hl
    have := Pls.mtail.at_ hl.2 k (by simpa using h)
    rw [show o + (k + 1) * 4 = o + 4 + k * 4 by omega]
    simpa using this
theorem Pls.mtail.mark : ∀ {l : List Pl} {b o : Nat}, Pls.mtail w S l b o → S b ∧ w.cell? ⟨b, o + l.length * 4, none⟩ = some (.int .i64 (-7))
  | [], b, o, h => by
    unfold Pls.mtail at h
    simpa using h
  | p :: ps, b, o, h => by
    unfold Pls.mtail at h
    have := Pls.mtail.mark h.2
    refine ⟨this.1, ?_⟩
    rw [show o + (p :: ps).length * 4 = o + 4 + ps.length * 4 by simp; omega]
    exact this.2
end
/-- A plain value and where its list lies. -/
structure PlAt where
  p : Pl
  A : Option Addr
  c : Nat
def PlAt.cells (x : PlAt) : List Value := x.p.cells4 x.A x.c
theorem plat_flat : ∀ (us : List PlAt) (k : Nat) (h : k < us.length) (j : Nat), j < 4 → (us.flatMap PlAt.cells)[k * 4 + j]? = us[k].cells[j]?
  | x :: us, 0, _, j, hj => by
    rw [List.flatMap_cons, List.getElem?_append_left (by show _ < 4; omega)]; simp
  | x :: us, k + 1, h, j, hj => by
    have hl : x.cells.length = 4 := rfl
    rw [List.flatMap_cons, List.getElem?_append_right (by omega), hl, show (k + 1) * 4 + j - 4 = k * 4 + j by omega]
    simpa using plat_flat us k (by simpa using h) j hj
theorem plat_len : ∀ (us : List PlAt), (us.flatMap PlAt.cells).length = us.length * 4
  | [] => rfl
  | x :: us => by
    have hl : x.cells.length = 4 := rfl
    rw [List.flatMap_cons, List.length_append, plat_len us, hl, List.length_cons]; omega
/-- Together out of their cells. -/
theorem mtail_of {w : World} {S : Nat → Prop} {b : Nat} (hb : S b) : ∀ (us : List PlAt) (o : Nat), (∀ j u, (us.flatMap PlAt.cells)[j]? = some u → w.cell? ⟨b, o + j, none⟩ = some u) → (∀ x ∈ us, x.p.sane ∧ Marked w S x.p.list x.A x.c) →
    w.cell? ⟨b, o + us.length * 4, none⟩ = some (.int .i64 (-7)) → Pls.mtail w S (us.map PlAt.p) b o
  | [], o, _, _, hm => by unfold Pls.mtail List.map; exact ⟨hb, by simpa using hm⟩
  | x :: us, o, hc, hx, hm => by
    unfold List.map Pls.mtail
    obtain ⟨h1, h2⟩ := hx x (by simp)
    refine ⟨Pl.mlies_iff.2 ⟨hb, h1, x.A, x.c, fun j u hj => hc j u ?_, h2⟩, mtail_of hb us (o + 4) (fun j u hj => ?_) (fun y hy => hx y (by simp [hy])) ?_⟩
    · have hlt : j < 4 := by
        rcases Nat.lt_or_ge j 4 with h | h
        · exact h
        · rw [List.getElem?_eq_none (by exact h)] at hj; cases hj
      rw [List.flatMap_cons, List.getElem?_append_left (by exact hlt)]; exact hj
    · rw [show o + 4 + j = o + (j + 4) by omega]
      refine hc (j + 4) u ?_
      have hl : x.cells.length = 4 := rfl
      rw [List.flatMap_cons, List.getElem?_append_right (by omega), hl, Nat.add_sub_cancel]; exact hj
    · rw [show o + 4 + us.length * 4 = o + (x :: us).length * 4 by simp; omega]; exact hm
end Go.Proofs.YtcdjnkeomaidaaaGreat

/-
  espalierlaw2.Twin: a walk, for every plain value. Conditions: it lies in memory.
-/
namespace Go.Proofs.YtcdjnkeomaidaaaGreat
open Go.RowKit
set_option linter.unusedVariables false

theorem info_plainT : (Tryz.prog.info? 34).map (fun i => (i.zero, i.size, i.bytes)) = some (some (.agg #[.int .i64 0, .int .i64 0, .string ByteArray.empty, .slice none 0 0]), 4, 56) := by kernel_rfl
theorem info_plain_parts : ∃ i, Tryz.prog.info? 34 = some i ∧ i.zero = some (.agg #[.int .i64 0, .int .i64 0, .string ByteArray.empty, .slice none 0 0]) ∧ i.size = 4 ∧ i.bytes = 56 := by
  have h := info_plainT
  cases hh : Tryz.prog.info? 34 with
  | none => rw [hh] at h; cases h
  | some i =>
    rw [hh] at h
    simp only [Option.map_some, Option.some.injEq, Prod.mk.injEq] at h
    exact ⟨i, rfl, h.1, h.2.1, h.2.2⟩
/-- A plain value in new memory, marks behind its lists. -/
def TwinPost (p : Pl) (w : World) (e : Ending) (w' : World) : Prop := ∃ A c, e = .returned (p.arg A c) ∧ Marked w' (fresh w w') p.list A c ∧ Below w.heap.size w w'
theorem plat_step {wr w2 w3 : World} {G : Nat} {us : List PlAt} {x : PlAt} {X Y : Obj} (hG : G < wr.heap.size) (hel : ∀ y ∈ us, y.p.sane ∧ Marked wr (fun b => G < b ∧ b < wr.heap.size) y.p.list y.A y.c)
    (hb2 : Below wr.heap.size wr w2) (hx : x.p.sane) (hm : Marked w2 (fresh wr w2) x.p.list x.A x.c) (hgr : ((w2.alloc X).alloc Y).grownBy w3 (some G)) :
    ∀ y ∈ us ++ [x], y.p.sane ∧ Marked w3 (fun b => G < b ∧ b < w3.heap.size) y.p.list y.A y.c := by
  have hs2 := hb2.size
  have hs3 := hgr.size
  simp only [size_alloc] at hs3
  have hlate : ∀ b o, b < w2.heap.size → G ≠ b → w3.cell? ⟨b, o, none⟩ = w2.cell? ⟨b, o, none⟩ := fun b o h2 h3 => World.cell?_of_block (a := ⟨b, o, none⟩) (by
    show w3.heap[b]? = w2.heap[b]?
    rw [hgr.block b (by simp; omega) (fun e => h3 (by injection e with e; omega)), Below.heap_alloc _ _ _ (by simp; omega), Below.heap_alloc _ _ _ h2])
  intro y hy
  rcases List.mem_append.1 hy with hy | hy
  · obtain ⟨h1, h2⟩ := hel y hy
    refine ⟨h1, h2.keep (fun b o hs => ?_) (fun b hs => ⟨hs.1, by have := hs.2; omega⟩)⟩
    rw [hlate b o (by have := hs.2; omega) (by have := hs.1; omega)]
    exact hb2.cell (p := ⟨b, o, none⟩) hs.2
  · rw [List.mem_singleton] at hy
    subst hy
    refine ⟨hx, hm.keep (fun b o hs => hlate b o hs.2 (by have := hs.1; omega)) (fun b hs => ⟨by have := hs.1; omega, by have := hs.2; omega⟩)⟩
theorem plat_block {wr w2 w3 : World} {G b : Nat} {X Y o : Obj} (hb2 : Below wr.heap.size wr w2) (hgr : ((w2.alloc X).alloc Y).grownBy w3 (some G)) (h : wr.heap[b]? = some o) (hb : G ≠ b) : w3.heap[b]? = some o := by
  have hlt : b < wr.heap.size := by
    rcases Nat.lt_or_ge b wr.heap.size with h' | h'
    · exact h'
    · rw [Array.getElem?_eq_none h'] at h; cases h
  have hs2 := hb2.size
  rw [hgr.block b (by simp; omega) (fun e => hb (by injection e with e; omega)), Below.heap_alloc _ _ _ (by simp; omega), Below.heap_alloc _ _ _ (by omega), hb2.block b hlt, h]
theorem plat_below {w wr w2 w3 : World} {G : Nat} {X Y : Obj} (h : Below w.heap.size w wr) (hG : w.heap.size ≤ G) (hb2 : Below wr.heap.size wr w2) (hgr : ((w2.alloc X).alloc Y).grownBy w3 (some G)) : Below w.heap.size w w3 := by
  have h2 := h.trans (hb2.mono h.size)
  have hs := h2.size
  exact ((h2.alloc hs X).alloc (by simp; omega) Y).grown hgr (by simp; omega) (by intro k hk; injection hk with hk; omega)
theorem mtail_eq {w : World} {S : Nat → Prop} {l l' : List Pl} {b o : Nat} (h : l = l') (hm : Pls.mtail w S l b o) : Pls.mtail w S l' b o := h ▸ hm
set_option maxRecDepth 100000 in
set_option maxHeartbeats 4000000 in
theorem twin_step (k n : Int) (t : ByteArray) (l : List Pl)
    (ih : ∀ (j : Nat) (h : j < l.length) (A : Option Addr) (c : Nat) (w : World), l[j].sane → Pls.lies w w.heap.size l[j].list A → Calls Tryz.prog 15 #[l[j].arg A c] w (TwinPost l[j] w))
    (A : Option Addr) (c : Nat) (w : World) (hs : (Pl.mk k n t l).sane) (hl : Pls.lies w w.heap.size l A) :
    Calls Tryz.prog 15 #[.agg #[.int .i64 k, .int .i64 n, .string t, .slice A l.length c]] w (TwinPost (.mk k n t l) w) := by
  have IH := Lib.hid ih
  have HL := Lib.hid hl
  have HS := Lib.hid hs
  clear ih
  cases A with
  | none =>
    have hl0 : Hid (l = []) := Lib.hid (by
      cases l with
      | nil => rfl
      | cons p ps => unfold Pls.lies at hl; obtain ⟨b, o, e, _⟩ := hl; cases e)
    clear hl hs
    have he : ∀ w : World, (binOp .eql 24 (.slice none l.length c) (.slice none 0 0)).run Tryz.prog w = .ok (.bool true) w := fun _ => rfl
    go_enter Tryz.func15, Tryz.ntmps15
    go_wp2
    refine bodyPost_ret (fn := Tryz.f15) (v := (Pl.mk k n t l).arg none c) ?_ rfl ⟨none, c, rfl, .inl ⟨rfl, hl0.out⟩, ((Below.refl _ _).alloc (Nat.le_refl _) _).alloc (by simp) _⟩
    refine results_cell (p := 2) (ty := 34) (a := ⟨w.heap.size + 1, 0, none⟩) Tryz.results15 rfl ?_
    exact run_loadVar_row (P := Tryz.prog) _ _ _ 34 _ _ _ (heap_alloc2 w _ _).2 Tryz.underlying34 rfl (by kernel_rfl)
  | some ad =>
    obtain ⟨i0, hi, hz0, hz1, hz2⟩ := info_plain_parts
    have hlen : l.length * 56 ≤ 140737488351232 := hs.2.2.2
    clear hl hs
    have he : ∀ w : World, (binOp .eql 24 (.slice (some ad) l.length c) (.slice none 0 0)).run Tryz.prog w = .ok (.bool false) w := fun _ => rfl
    go_enter Tryz.func15, Tryz.ntmps15
    go_wp2_with (refine wpList_make_own _ rfl _ _ 24 rfl (w.heap.size + 2) 34 i0 (.agg #[.int .i64 0, .int .i64 0, .string ByteArray.empty, .slice none 0 0]) 4 Tryz.underlying24 hi hz0 hz1 _ _ _ (l.length + 1) rfl rfl (by omega) (by rw [hz2]; omega) (by unfold maxLen; omega) (by simp) ?_; intro w1 hown hgr)
    generalize hX1 : Obj.cells #[.int .i64 k, .int .i64 n, .string t, .slice (some ad) l.length c] 34 = X1 at *
    generalize hX2 : Obj.cells #[.int .i64 0, .int .i64 0, .string ⟨#[]⟩, .slice none 0 0] 34 = X2 at *
    have HX1 := Lib.hid hX1
    have HX2 := Lib.hid hX2
    have hsz : w.heap.size + 2 < w1.heap.size := by
      have := own_lt hown
      simp only [size_alloc] at this
      omega
    have B1 := Lib.hid ((hgr.block w.heap.size (by simp; omega) (by simp)).trans (heap_alloc2 w X1 X2).1)
    have B2 := Lib.hid ((hgr.block (w.heap.size + 1) (by simp) (by simp)).trans (heap_alloc2 w X1 X2).2)
    have HB1 := Lib.hid ((((Below.refl w.heap.size w).alloc (Nat.le_refl _) X1).alloc (by simp) X2).grown hgr (by simp; omega) (by simp))
    have HO := Lib.hid (show w1.ownsRow (w.heap.size + 2) 34 4 (.slice (some ⟨w.heap.size + 2, 0, none⟩) 0 (l.length + 1)) 0 [] by simpa using hown)
    clear hown hgr hX1 hX2
    go_loopw [3, 4] (fun s3 s4 wr => ∃ (j : Nat) (us : List PlAt), j ≤ l.length ∧ s4 = .int .i64 (j : Int) ∧ s3 = .slice (some ⟨w.heap.size + 2, 0, none⟩) j (l.length + 1) ∧ us.map PlAt.p = l.take j ∧
      wr.ownsRow (w.heap.size + 2) 34 4 (.slice (some ⟨w.heap.size + 2, 0, none⟩) j (l.length + 1)) j (us.flatMap PlAt.cells) ∧
      (∀ x ∈ us, x.p.sane ∧ Marked wr (fun b => w.heap.size + 2 < b ∧ b < wr.heap.size) x.p.list x.A x.c) ∧ wr.heap[w.heap.size]? = some X1 ∧ wr.heap[w.heap.size + 1]? = some X2 ∧ Below w.heap.size w wr) (fun _ s4 _ => l.length - (intOf s4).toNat)
    case atStart => exact ⟨0, [], Nat.zero_le _, rfl, rfl, by simp, HO.out, (fun x hx => absurd hx (List.not_mem_nil)), B1.out, B2.out, HB1.out⟩
    case round =>
      clear hsz HO HB1 B1 B2
      obtain ⟨j, us, hj, rfl, rfl, hus, hown, hel, hb1, hb2, hbel⟩ := hrel
      have hsz : w.heap.size + 2 < wr.heap.size := own_lt hown
      have HU := Lib.hid hus
      have HO := Lib.hid hown
      have HE := Lib.hid hel
      have HB := Lib.hid hbel
      have B1 := Lib.hid hb1
      have B2 := Lib.hid hb2
      clear hus hown hel hbel hb1 hb2
      have c3 : wr.cell? ⟨w.heap.size, 3, none⟩ = some (.slice (some ad) l.length c) := cell_of_row _ _ 3 _ _ _ (by rw [B1.out, ← HX1.out])
      by_cases hlt : j < l.length
      · obtain ⟨b', o', had⟩ := HL.out.head (by omega)
        injection had with had
        subst had
        have hlies := (HL.out.below HB.out (Nat.le_of_lt (by omega : w.heap.size < wr.heap.size))).at_ j hlt
        have hsn := Lib.hid hlies.sane
        obtain ⟨hbb, e0, e1, e2, hlen2, A', c', e3, hll⟩ := hlies.parts
        have HLL := Lib.hid (IH.out j hlt A' c' wr hsn.out hll)
        unfold Pl.arg at HLL
        clear hll hlies
        go_wp2_with fail
        refine HLL.out.mono ?_
        rintro e w2 ⟨A1, c1, rfl, hm, hb2⟩
        have HM := Lib.hid hm
        have HB2 := Lib.hid hb2
        have hs2 := hb2.size
        have hown2 := Lib.hid ((own_below HO.out hb2).alloc (.cells (l[j].cells4 A1 c1).toArray 34) |>.alloc (.cells (l[j].cells4 A1 c1).toArray 34))
        clear hm hb2 e0 e1 e2 e3 c3 HLL
        unfold Pl.arg
        unfold Pl.cells4 at hown2
        go_wp2_with (at_builtin; refine wpList_append_fits _ rfl _ _ 24 rfl (w.heap.size + 2) 34 i0 4 Tryz.underlying24 hi hz1 (w.heap.size + 2) j (l.length + 1) (us.flatMap PlAt.cells) rfl hown2.out ⟨w2.heap.size + 1, 0, none⟩ 1 1 (l[j].cells4 A1 c1) rfl rfl (World.news_of_block (by exact (heap_alloc2 w2 _ _).2)) (by intro u hu; unfold Pl.cells4 at hu; simp at hu; rcases hu with rfl | rfl | rfl | rfl <;> rfl) (by omega) ?_)
        intro w3 hown3 hgr3
        have HE3 := Lib.hid (plat_step (x := ⟨l[j], A1, c1⟩) hsz HE.out HB2.out hsn.out HM.out hgr3)
        have B13 := Lib.hid (plat_block HB2.out hgr3 B1.out (by omega))
        have B23 := Lib.hid (plat_block HB2.out hgr3 B2.out (by omega))
        have HB3 := Lib.hid (plat_below HB.out (by omega) HB2.out hgr3)
        have HU3 := Lib.hid (show (us ++ [(⟨l[j], A1, c1⟩ : PlAt)]).map PlAt.p = l.take (j + 1) by rw [List.map_append, HU.out, List.take_succ_eq_append_getElem hlt]; rfl)
        have HO3 := Lib.hid (show w3.ownsRow (w.heap.size + 2) 34 4 (.slice (some ⟨w.heap.size + 2, 0, none⟩) (j + 1) (l.length + 1)) (j + 1) ((us ++ [(⟨l[j], A1, c1⟩ : PlAt)]).flatMap PlAt.cells) by
          rw [List.flatMap_append, List.flatMap_singleton]; exact hown3)
        clear hown3 hgr3 hown2
        go_wp2
        go_roundw
        case rel => exact ⟨j + 1, us ++ [(⟨l[j], A1, c1⟩ : PlAt)], by omega, by go_num, rfl, HU3.out, HO3.out, HE3.out, B13.out, B23.out, HB3.out⟩
        case measure => simp [intOf]; omega
      · obtain rfl : j = l.length := by omega
        have hown2 := Lib.hid (HO.out.alloc (.cells #[.int .i64 (-7), .int .i64 0, .string ⟨#[]⟩, .slice none 0 0] 34))
        go_wp2_with (at_builtin; refine wpList_append_fits _ rfl _ _ 24 rfl (w.heap.size + 2) 34 i0 4 Tryz.underlying24 hi hz1 (w.heap.size + 2) l.length (l.length + 1) (us.flatMap PlAt.cells) rfl hown2.out ⟨wr.heap.size, 0, none⟩ 1 1 [.int .i64 (-7), .int .i64 0, .string ⟨#[]⟩, .slice none 0 0] rfl rfl (World.news_of_block (by exact heap_alloc_new wr _)) (by intro u hu; simp at hu; rcases hu with rfl | rfl | rfl | rfl <;> rfl) (by omega) ?_)
        intro w3 hown3 hgr3
        have D1 := Lib.hid (show w3.heap[w.heap.size]? = some X1 by rw [hgr3.block _ (by simp; omega) (fun e => by injection e; omega), Below.heap_alloc _ _ _ (by omega), B1.out])
        have D2 := Lib.hid (show w3.heap[w.heap.size + 1]? = some X2 by rw [hgr3.block _ (by simp; omega) (fun e => by injection e; omega), Below.heap_alloc _ _ _ (by omega), B2.out])
        have f1 : ∀ j, w3.cell? ⟨w.heap.size, j, none⟩ = (#[.int .i64 k, .int .i64 n, .string t, .slice (some ad) l.length c] : Array Value)[j]? := fun j => by simp [World.cell?, D1.out, ← HX1.out]
        have g1 : ∀ j, w3.frozen? ⟨w.heap.size, j, none⟩ = false := fun j => by simp [World.frozen?, D1.out, ← HX1.out]
        have f2 : ∀ j, w3.cell? ⟨w.heap.size + 1, j, none⟩ = (#[.int .i64 0, .int .i64 0, .string ⟨#[]⟩, .slice none 0 0] : Array Value)[j]? := fun j => by simp [World.cell?, D2.out, ← HX2.out]
        have g2 : ∀ j, w3.frozen? ⟨w.heap.size + 1, j, none⟩ = false := fun j => by simp [World.frozen?, D2.out, ← HX2.out]
        have HO3 := Lib.hid hown3
        have HG3 := Lib.hid hgr3
        have hs3 := hgr3.size
        rw [size_alloc] at hs3
        clear c3 hown3 hgr3
        go_wp2
        clear f1 g1 f2 g2
        have hres := run_loadVar_row (P := Tryz.prog) _ _ _ 34 _ _ _ (blk_set (blk_set (blk_set (blk_set (blk_far (D2.out.trans (by rw [← HX2.out])) (p := ⟨w.heap.size, 3, none⟩) (by simp) (.slice (some ⟨w.heap.size + 2, 0, none⟩) l.length (l.length + 1))) 0 (.int .i64 k)) 1 (.int .i64 n)) 2 (.string t)) 3 (.slice (some ⟨w.heap.size + 2, 0, none⟩) l.length (l.length + 1))) Tryz.underlying34 rfl (by kernel_rfl)
        refine bodyPost_ret (fn := Tryz.f15) (v := (Pl.mk k n t l).arg (some ⟨w.heap.size + 2, 0, none⟩) (l.length + 1)) ?_ rfl ⟨some ⟨w.heap.size + 2, 0, none⟩, l.length + 1, rfl, ?_, ?_⟩
        · exact results_cell (p := 2) (ty := 34) (a := ⟨w.heap.size + 1, 0, none⟩) Tryz.results15 rfl hres
        · clear hres
          have hfin : ∀ b o, b ≠ w.heap.size → b ≠ w.heap.size + 1 → (((((w3.setCell ⟨w.heap.size, 3, none⟩ (.slice (some ⟨w.heap.size + 2, 0, none⟩) l.length (l.length + 1))).setCell ⟨w.heap.size + 1, 0, none⟩ (.int .i64 k)).setCell ⟨w.heap.size + 1, 1, none⟩ (.int .i64 n)).setCell ⟨w.heap.size + 1, 2, none⟩ (.string t)).setCell ⟨w.heap.size + 1, 3, none⟩ (.slice (some ⟨w.heap.size + 2, 0, none⟩) l.length (l.length + 1))).cell? ⟨b, o, none⟩ = w3.cell? ⟨b, o, none⟩ := fun b o h1 h2 => by
            rw [cell_far _ _ (p := ⟨w.heap.size + 1, 3, none⟩) h2, cell_far _ _ (p := ⟨w.heap.size + 1, 2, none⟩) h2, cell_far _ _ (p := ⟨w.heap.size + 1, 1, none⟩) h2, cell_far _ _ (p := ⟨w.heap.size + 1, 0, none⟩) h2, cell_far _ _ (p := ⟨w.heap.size, 3, none⟩) h1]
          have hfs : (((((w3.setCell ⟨w.heap.size, 3, none⟩ (.slice (some ⟨w.heap.size + 2, 0, none⟩) l.length (l.length + 1))).setCell ⟨w.heap.size + 1, 0, none⟩ (.int .i64 k)).setCell ⟨w.heap.size + 1, 1, none⟩ (.int .i64 n)).setCell ⟨w.heap.size + 1, 2, none⟩ (.string t)).setCell ⟨w.heap.size + 1, 3, none⟩ (.slice (some ⟨w.heap.size + 2, 0, none⟩) l.length (l.length + 1))).heap.size = w3.heap.size := by
            rw [size_set, size_set, size_set, size_set, size_set]
          refine .inr ⟨w.heap.size + 2, 0, rfl, Nat.lt_succ_self _, ?_⟩
          have hup : us.map PlAt.p = l := by rw [HU.out, List.take_length]
          have hul : us.length = l.length := by rw [← hup, List.length_map]
          refine mtail_eq hup ?_
          refine mtail_of ⟨by omega, by rw [hfs]; omega⟩ us 0 (fun j u hj => ?_) (fun y hy => ?_) ?_
          · have hjl : j < us.length * 4 := by
              rcases Nat.lt_or_ge j (us.flatMap PlAt.cells).length with h | h
              · rwa [plat_len] at h
              · rw [List.getElem?_eq_none h] at hj; cases hj
            rw [hfin _ _ (by omega) (by omega), Nat.zero_add, HO3.out.cellAt j (by omega), List.getElem?_append_left (by rw [plat_len]; exact hjl)]
            exact hj
          · obtain ⟨h1, h2⟩ := HE.out y hy
            refine ⟨h1, h2.keep (fun b o hs => ?_) (fun b hs => ⟨by have := hs.1; omega, by rw [hfs]; have := hs.2; omega⟩)⟩
            have hb1 := hs.1
            have hb2 := hs.2
            rw [hfin _ _ (by omega) (by omega)]
            refine World.cell?_of_block (a := ⟨b, o, none⟩) ?_
            show w3.heap[b]? = wr.heap[b]?
            rw [HG3.out.block b (by simp; omega) (fun e => by injection e; omega), Below.heap_alloc _ _ _ hb2]
          · rw [hfin _ _ (by omega) (by omega), Nat.zero_add, HO3.out.cellAt _ (by omega), List.getElem?_append_right (by rw [plat_len]; exact Nat.le_refl _), plat_len, Nat.sub_self]; rfl
        · exact ((((((HB.out.alloc HB.out.size _).grown HG3.out (by have := HB.out.size; simp; omega) (by intro k hk; injection hk with hk; omega)).setCell (p := ⟨w.heap.size, 3, none⟩) (Nat.le_refl _) _).setCell (p := ⟨w.heap.size + 1, 0, none⟩) (Nat.le_succ _) _).setCell (p := ⟨w.heap.size + 1, 1, none⟩) (Nat.le_succ _) _).setCell (p := ⟨w.heap.size + 1, 2, none⟩) (Nat.le_succ _) _).setCell (p := ⟨w.heap.size + 1, 3, none⟩) (Nat.le_succ _) _
theorem twin_all : ∀ (z : Nat) (p : Pl), SizeOf.sizeOf p ≤ z → ∀ (A : Option Addr) (c : Nat) (w : World), p.sane → Pls.lies w w.heap.size p.list A → Calls Tryz.prog 15 #[p.arg A c] w (TwinPost p w) := by
  intro z
  induction z with
  | zero => intro p h; cases p; simp at h
  | succ z ih =>
    intro p hp A c w h0 h1
    obtain ⟨k, n, t, l⟩ := p
    exact twin_step k n t l (fun j hj => ih l[j] (by have := Pl.size_lt (k := k) (n := n) (t := t) hj; omega)) A c w h0 h1
/-- espalierlaw2.Twin. -/
theorem law2_Twin (p : Pl) (A : Option Addr) (c : Nat) (w : World) (h0 : p.sane) (h1 : Pls.lies w w.heap.size p.list A) : Calls Tryz.prog 15 #[p.arg A c] w (TwinPost p w) := twin_all _ p (Nat.le_refl _) A c w h0 h1
end Go.Proofs.YtcdjnkeomaidaaaGreat

/-
  Plain values, and rows of them, opened out of a row's datum: how they lie in memory. Conditions: none.
-/
namespace Go.Proofs.YtcdjnkeomaidaaaGreat
open Go.RowKit Go.WideShapes Go.ChangeShapes Go.ChangeAt
set_option linter.unusedVariables false

theorem size_data (s : ByteArray) : s.data.toList.length = s.size := by
  exact s.data.length_toList
theorem spot_none {w : World} {b o : Nat} {sp : Option Nat} {v : Value} (h : w.cell? ⟨b, o, sp⟩ = some v) : sp = none := by
  cases sp with
  | none => rfl
  | some x =>
    unfold World.cell? at h
    split at h <;> simp at h
theorem weightsAll_mem {H : Type} {P : Program} {e : TypeId} : ∀ {l : List (DataW H)} {d : DataW H}, d ∈ l → ∀ n ∈ d.weights P e, n ∈ DataW.weightsAll P e l
  | x :: l, d, h, n, hn => by
    simp only [DataW.weightsAll, List.mem_append]
    rcases List.mem_cons.1 h with rfl | h
    · exact Or.inl hn
    · exact Or.inr (weightsAll_mem h n hn)
/-- All that a datum weighs is within reach. -/
def Fit {H : Type} (t : TypeId) (d : DataW H) : Prop := ∀ n ∈ d.weights Tryz.prog t, n ≤ 140737488351232
theorem lies_build {w : World} {B b : Nat} : ∀ (n o : Nat), (∀ i, i < n → ∃ p : Pl, p.lies w B b (o + i * 4)) → ∃ l : List Pl, l.length = n ∧ Pls.lies w B l (some ⟨b, o, none⟩)
  | 0, o, h => ⟨[], rfl, by unfold Pls.lies; trivial⟩
  | n + 1, o, h => by
    obtain ⟨p, hp⟩ := h 0 (by omega)
    obtain ⟨l, hl, hs⟩ := lies_build n (o + 4) (fun i hi => by
      obtain ⟨q, hq⟩ := h (i + 1) (by omega)
      exact ⟨q, by rw [show o + 4 + i * 4 = o + (i + 1) * 4 by omega]; exact hq⟩)
    refine ⟨p :: l, by simp [hl], ?_⟩
    unfold Pls.lies
    exact ⟨b, o, rfl, by simpa using hp, hs⟩
theorem add_add_none (b o i j : Nat) : ((⟨b, o, none⟩ : Addr).add i).add j = ⟨b, o + i + j, none⟩ := by
  rw [Deep.add_add]
  unfold Addr.add
  split
  · simp_all
  · simp [Nat.add_assoc]
theorem op_c4 : Tryz.prog.cellsOf 34 = 4 := by kernel_rfl
theorem op_b4 : Tryz.prog.bytesOf 34 = 56 := by kernel_rfl
theorem op_c1 : Tryz.prog.cellsOf 3 = 1 := by kernel_rfl
theorem op_c1' : Tryz.prog.cellsOf 2 = 1 := by kernel_rfl
theorem op_c1s : Tryz.prog.cellsOf 9 = 1 := by kernel_rfl
theorem op_c1l : Tryz.prog.cellsOf 24 = 1 := by kernel_rfl
theorem len4 {α : Type} {l : List α} (h : l.length = 4) : ∃ a b c d, l = [a, b, c, d] := by
  match l, h with
  | [a, b, c, d], _ => exact ⟨a, b, c, d, rfl⟩
theorem rng_of_wf {n : Int} (h : (Lit.int .i64 n).wf = true) : rng n = true := by
  have h' : IntKind.i64.min ≤ n ∧ n ≤ 9223372036854775807 := by simpa [Lit.wf] using h
  exact rng_iff.mpr ⟨h'.1, h'.2⟩

theorem open_plain {H : Type} {enc : TypeId × Value → H} {w : World} {spare : Nat → Bool} {held : Bool} : ∀ (z fuel : Nat) (cs : List Value) (x : DataW H × List MemPlace), fuel ≤ z →
    DataW.trod enc Tryz.prog w 0 spare held fuel 34 cs = some x → (∀ p ∈ x.2, p.block < w.heap.size) → Fit 34 x.1 →
    ∃ (p : Pl) (A : Option Addr) (c : Nat), cs = [.int .i64 p.kind, .int .i64 p.num, .string p.text, .slice A p.list.length c] ∧ p.sane ∧ Pls.lies w w.heap.size p.list A := by
  intro z
  induction z with
  | zero =>
    intro fuel cs x hz h _ _
    obtain rfl : fuel = 0 := by omega
    simp [DataW.trod] at h
  | succ z ih =>
    intro fuel cs x hz h hlt hfit
    obtain ⟨xs, n, hfu, rfl, hl, hlen, hf⟩ := DataW.trod_struct Tryz.underlying34 h
    rw [op_c4] at hl
    obtain ⟨v0, v1, v2, v3, rfl⟩ := len4 hl
    obtain ⟨x0, x1, x2, x3, rfl⟩ := len4 hlen
    have h0 : DataW.trod enc Tryz.prog w 0 spare held n 3 [v0] = some x0 := by
      have := hf 0 _ rfl
      simpa [op_c1] using this
    have h1 : DataW.trod enc Tryz.prog w 0 spare held n 2 [v1] = some x1 := by
      have := hf 1 _ rfl
      simpa [op_c1'] using this
    have h2 : DataW.trod enc Tryz.prog w 0 spare held n 9 [v2] = some x2 := by
      have := hf 2 _ rfl
      simpa [op_c1s] using this
    have h3 : DataW.trod enc Tryz.prog w 0 spare held n 24 [v3] = some x3 := by
      have := hf 3 _ rfl
      simpa [op_c1l] using this
    obtain ⟨k, e0, rfl, g0⟩ := DataW.trod_int Tryz.underlying3 h0
    obtain ⟨m, e1, rfl, g1⟩ := DataW.trod_int Tryz.underlying2 h1
    obtain ⟨s, e2, rfl, _⟩ := DataW.trod_string Tryz.underlying9 h2
    simp only [List.cons.injEq, and_true] at e0 e1 e2
    subst e0 e1 e2
    have m3 : ∀ p ∈ x3.2, p.block < w.heap.size := fun p hp => hlt p (List.mem_flatMap.2 ⟨x3, by simp, hp⟩)
    have hw : ∀ q ∈ s.data.toList.length :: x3.1.weights Tryz.prog 24, q ≤ 140737488351232 := fun q hq => hfit q (by
      simp only [List.map_cons, List.map_nil, DataW.weights, Tryz.underlying34, DataW.weightsEach, List.nil_append, List.append_nil, List.cons_append]
      exact hq)
    have hs : s.size ≤ 140737488351232 := by
      have := hw _ (List.mem_cons_self ..)
      exact (size_data s) ▸ this
    rcases DataW.trod_slice Tryz.underlying24 h3 with ⟨hcs, rfl⟩ | ⟨a, len, cap, elems, rest, n2, hn2, hcs, rfl, _, hle, hmx, hel, hx, _, _⟩
    · simp only [List.cons.injEq, and_true] at hcs
      subst hcs
      exact ⟨.mk k m s [], none, 0, rfl, ⟨rng_of_wf g0, rng_of_wf g1, hs, by simp [Pl.list]⟩, by unfold Pl.list Pls.lies; trivial⟩
    · simp only [List.cons.injEq, and_true] at hcs
      subst hcs
      have hsl : elems.length * 56 ≤ 140737488351232 := by
        have := hw ((elems.length + rest.length) * 56) (List.mem_cons_of_mem _ (by simp [DataW.weights, Tryz.underlying24, op_b4]))
        omega
      rcases Nat.eq_zero_or_pos len with hz0 | hpos
      · subst hz0
        exact ⟨.mk k m s [], some a, cap, rfl, ⟨rng_of_wf g0, rng_of_wf g1, hs, by simp [Pl.list]⟩, by unfold Pl.list Pls.lies; trivial⟩
      · have hone : ∀ i, i < len → ∃ p : Pl, ∃ A c, p.sane ∧ Pls.lies w w.heap.size p.list A ∧ ∀ j, j < 4 → w.cell? ((a.add (i * 4)).add j) = [Value.int .i64 p.kind, .int .i64 p.num, .string p.text, .slice A p.list.length c][j]? := by
          intro i hi
          have key := hx i hi
          rw [List.getElem?_eq_getElem (by omega), op_c4] at key
          obtain ⟨cs', c1, c2⟩ := Option.bind_eq_some_iff.1 key
          obtain ⟨_, hcl, hcc⟩ := World.cells?_some c1
          have hmem : elems[i]'(by omega) ∈ elems := List.getElem_mem _
          obtain ⟨p, A, c, rfl, hps, hpl⟩ := ih n2 cs' _ (by omega) c2 (fun q hq => m3 q (List.mem_append_right _ (List.mem_flatMap.2 ⟨_, List.mem_append_left _ hmem, hq⟩)))
            (fun q hq => hw q (List.mem_cons_of_mem _ (by
              simp only [DataW.weights, Tryz.underlying24]
              exact List.mem_cons_of_mem _ (List.mem_append_left _ (weightsAll_mem (List.mem_map.2 ⟨_, hmem, rfl⟩) q hq)))))
          exact ⟨p, A, c, hps, hpl, fun j hj => by rw [hcc j hj]⟩
        obtain ⟨p0, A0, c0, _, _, hy0⟩ := hone 0 hpos
        have h00 := hy0 0 (by omega)
        rw [show (a.add (0 * 4)).add 0 = a by simp [Addr.add]] at h00
        obtain ⟨b, o, sp⟩ := a
        have hsp := spot_none (h00.trans (show _ = some (.int .i64 p0.kind) from rfl))
        subst hsp
        have hbl : b < w.heap.size := World.block_lt_of_cell? _ _ (h00.trans (show _ = some (.int .i64 p0.kind) from rfl))
        obtain ⟨l, hll, hlies⟩ := lies_build (w := w) (B := w.heap.size) (b := b) len o (fun i hi => by
          obtain ⟨p, A, c, hps, hpl, hc⟩ := hone i hi
          simp only [add_add_none] at hc
          refine ⟨p, ?_⟩
          obtain ⟨pk, pn, pt, pl⟩ := p
          unfold Pl.lies
          exact ⟨hbl, hc 0 (by omega), hc 1 (by omega), hc 2 (by omega), hps.1, hps.2.1, hps.2.2.1, hps.2.2.2, A, c, hc 3 (by omega), hpl⟩)
        refine ⟨.mk k m s l, some ⟨b, o, none⟩, cap, ?_, ⟨rng_of_wf g0, rng_of_wf g1, hs, ?_⟩, hlies⟩
        · simp [Pl.kind, Pl.num, Pl.text, Pl.list, hll]
        · simp only [Pl.list, hll]
          omega
/-- A slice of plain values, opened. -/
theorem open_plains {H : Type} {enc : TypeId × Value → H} {w : World} {spare : Nat → Bool} {held : Bool} {fuel : Nat} {v : Value} {x : DataW H × List MemPlace}
    (h : DataW.trod enc Tryz.prog w 0 spare held fuel 24 [v] = some x) (hlt : ∀ p ∈ x.2, p.block < w.heap.size) (hfit : Fit 24 x.1) :
    ∃ (l : List Pl) (A : Option Addr) (c : Nat), v = .slice A l.length c ∧ l.length * 56 ≤ 140737488351232 ∧ Pls.lies w w.heap.size l A := by
  rcases DataW.trod_slice Tryz.underlying24 h with ⟨hcs, rfl⟩ | ⟨a, len, cap, elems, rest, n2, hn2, hcs, rfl, _, hle, hmx, hel, hx, _, _⟩
  · simp only [List.cons.injEq, and_true] at hcs
    subst hcs
    exact ⟨[], none, 0, rfl, by simp, by unfold Pls.lies; trivial⟩
  · simp only [List.cons.injEq, and_true] at hcs
    subst hcs
    have hsl : elems.length * 56 ≤ 140737488351232 := by
      have := hfit ((elems.length + rest.length) * 56) (by simp [DataW.weights, Tryz.underlying24, op_b4])
      omega
    rcases Nat.eq_zero_or_pos len with hz0 | hpos
    · subst hz0
      exact ⟨[], some a, cap, rfl, by simp, by unfold Pls.lies; trivial⟩
    · have hone : ∀ i, i < len → ∃ p : Pl, ∃ A c, p.sane ∧ Pls.lies w w.heap.size p.list A ∧ ∀ j, j < 4 → w.cell? ((a.add (i * 4)).add j) = [Value.int .i64 p.kind, .int .i64 p.num, .string p.text, .slice A p.list.length c][j]? := by
        intro i hi
        have key := hx i hi
        rw [List.getElem?_eq_getElem (by omega), op_c4] at key
        obtain ⟨cs', c1, c2⟩ := Option.bind_eq_some_iff.1 key
        obtain ⟨_, hcl, hcc⟩ := World.cells?_some c1
        have hmem : elems[i]'(by omega) ∈ elems := List.getElem_mem _
        obtain ⟨p, A, c, rfl, hps, hpl⟩ := open_plain _ n2 cs' _ (Nat.le_refl _) c2 (fun q hq => hlt q (List.mem_append_right _ (List.mem_flatMap.2 ⟨_, List.mem_append_left _ hmem, hq⟩)))
          (fun q hq => hfit q (by
            simp only [DataW.weights, Tryz.underlying24]
            exact List.mem_cons_of_mem _ (List.mem_append_left _ (weightsAll_mem (List.mem_map.2 ⟨_, hmem, rfl⟩) q hq))))
        exact ⟨p, A, c, hps, hpl, fun j hj => by rw [hcc j hj]⟩
      obtain ⟨p0, A0, c0, _, _, hy0⟩ := hone 0 hpos
      have h00 := hy0 0 (by omega)
      rw [show (a.add (0 * 4)).add 0 = a by simp [Addr.add]] at h00
      obtain ⟨b, o, sp⟩ := a
      have hsp := spot_none (h00.trans (show _ = some (.int .i64 p0.kind) from rfl))
      subst hsp
      have hbl : b < w.heap.size := World.block_lt_of_cell? _ _ (h00.trans (show _ = some (.int .i64 p0.kind) from rfl))
      obtain ⟨l, hll, hlies⟩ := lies_build (w := w) (B := w.heap.size) (b := b) len o (fun i hi => by
        obtain ⟨p, A, c, hps, hpl, hc⟩ := hone i hi
        simp only [add_add_none] at hc
        refine ⟨p, ?_⟩
        obtain ⟨pk, pn, pt, pl⟩ := p
        unfold Pl.lies
        exact ⟨hbl, hc 0 (by omega), hc 1 (by omega), hc 2 (by omega), hps.1, hps.2.1, hps.2.2.1, hps.2.2.2, A, c, hc 3 (by omega), hpl⟩)
      exact ⟨l, some ⟨b, o, none⟩, cap, by rw [hll], by omega, hlies⟩
end Go.Proofs.YtcdjnkeomaidaaaGreat
