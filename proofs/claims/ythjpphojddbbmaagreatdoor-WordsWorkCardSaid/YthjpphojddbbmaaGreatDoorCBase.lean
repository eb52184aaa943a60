/-
  Texts of a proof in one: Base, NumPlain, Plains, Fresh, Values. Conditions: each names its own.
-/
import Derived.WalkKit
import Derived.WalkSpells
import Derived.WalkLawsBesides
import Derived.ProofKit
import Derived.OpenShut
import Derived.Deep.QuietTactic
import Derived.BigQuiet
import Derived.Below
import Derived.ChangeSame
import Derived.Lib.Hide
import Derived.Maps.AppendAt
import Derived.RowKit
/-
  Small laws over any program, for the proofs of this seat: worlds with new blocks; a region that draws its order and whose operations read old memory or make new; the row's last step. Conditions: none.
-/
namespace Go.Proofs.YthjpphojddbbmaaGreatDoor
open Go.RowKit Go.WideShapes Go.ChangeShapes

section
variable {H : Type} {enc : TypeId × Value → H} {P : Program}
theorem post_of_below {f : Func} {s : ChangeSpec} {apart fresh handsOn again : Bool} {W W' : World} {args : Array Value} {v : Value} {ds gs : List (DataW H)} {before pa pv : List MemPlace}
    (hW : DataW.Whole enc P f.params.toList s.vars apart W args.toList ds gs before)
    (hres : ∀ (b : Nat) (sp : Nat → Bool) (hd : Bool), DataW.TrodAll enc P W' b sp hd f.resultTypes.toList (v.resultList f.resultTypes.size) (s.fn H (ds ++ gs)).results [])
    (hargs : ∀ sp : Nat → Bool, (∀ p ∈ before, sp p.block = true) → DataW.TrodAll enc P W' 0 sp true f.params.toList args.toList (s.fn H (ds ++ gs)).args pa)
    (hvars : ∀ sp : Nat → Bool, (∀ p ∈ before, sp p.block = true) → DataW.TrodVars enc P W' sp s.vars (s.fn H (ds ++ gs)).vars pv)
    (hps : before = pa ++ pv) (hb : Below W.heap.size W W')
    (hok : ∀ (j : Nat) (t : TypeId) (r : Value), f.resultTypes[j]? = some t → (v.resultList f.resultTypes.size)[j]? = some r → Value.okWide P W' .any 0 t r) :
    s.post enc P f apart fresh handsOn again W args v W' := by
  have hlt : ∀ p ∈ before, p.block < W.heap.size := fun p hp => hW.lt p hp
  have hold : ∀ p ∈ before, (fun b => decide (b < W.heap.size)) p.block = true := fun p hp => by simpa using hlt p hp
  refine ⟨ds, gs, before, [], pa, pv, hW, hres _ _ _, hargs _ hold, hvars _ hold, World.keptBut_mono (fun p hp => ⟨hp, ?_⟩) (hb.frame (· ∈ before)), fun _ => ?_⟩
  · rw [hps, List.mem_append] at hp
    exact Or.inr hp
  · obtain ⟨_, _, _, _, _, hz, hn⟩ := hW
    refine ⟨hok, _, _, ([] ++ pa) ++ pv, ⟨[] ++ pa, pv, trodAll_append (hargs _ (fun _ _ => rfl)) (hres _ _ _), hvars _ (fun _ _ => rfl), rfl, ?_, ?_⟩, ?_⟩
    · intro b off hp
      have hin : MemPlace.cell b off ∈ before := by rw [hps]; simpa using hp
      rw [hb.frozen (hlt _ hin)]
      exact hz b off hin
    · intro ha
      have := hn ha
      rw [hps] at this
      simpa using this
    · intro p hp _
      rw [hps]
      simpa using hp
end

/-- The worlds that are 'w' with new blocks. -/
structure Ext (w : World) where
  now : World
  ok : Below w.heap.size w now
instance (w : World) : Nonempty (Ext w) := ⟨⟨w, Below.refl _ _⟩⟩
theorem Ext.cell {w : World} {p : Addr} {v : Value} (h : w.cell? p = some v) (x : Ext w) : x.now.cell? p = some v := by
  rw [x.ok.cell (World.block_lt_of_cell? _ _ h)]; exact h
/-- A region that draws its order, whose operations read old memory, and whose callees hand back known values and at most make new memory: one walk, in the text's order. -/
theorem wp_region_ext {P : Program} {id : Nat} {Q : Exit → Act → World → Prop} {a : Act} {w : World} {l : List Oper} (hm : P.follows .mixedOrders = true) (hB : Region.lexB .any l.toArray = true)
    (h : wpQuiet P l.toArray (fun w' => ∃ x : Ext w, w' = x.now) (fun a' => ∀ w', (∃ x : Ext w, w' = x.now) → Q .normal a' w') l a) : (Code.region id l.toArray true).wp P Q a w :=
  wp_region_quiet (C := fun w' => ∃ x : Ext w, w' = x.now) hm hB ⟨⟨_, (Below.refl _ _).drew⟩, rfl⟩ (by simpa using h)
theorem Calls.ext_of {P : Program} {f : FuncId} {args : Array Value} {w : World} {x : Ext w} {v : Value}
    (h : Calls P f args x.now fun e w' => e = .returned v ∧ Below x.now.heap.size x.now w') : Calls P f args x.now fun e w'' => e = .returned v ∧ ∃ y : Ext w, w'' = y.now :=
  h.mono fun _ _ ⟨he, hb⟩ => ⟨he, ⟨_, x.ok.trans (hb.mono x.ok.size)⟩, rfl⟩
theorem Calls.ext_of_same {P : Program} {f : FuncId} {args : Array Value} {w : World} {x : Ext w} {v : Value}
    (h : Calls P f args x.now fun e w' => e = .returned v ∧ x.now = w') : Calls P f args x.now fun e w'' => e = .returned v ∧ ∃ y : Ext w, w'' = y.now :=
  h.mono fun _ _ ⟨he, hb⟩ => ⟨he, x, hb.symm⟩
/-- What stands behind is shown of every world that meets R. -/
theorem gen {P : Program} {c : Code} {Q : Exit → Act → World → Prop} {a : Act} {w : World} (R : World → Prop) (h : R w) (k : ∀ w', R w' → c.wp P Q a w') : c.wp P Q a w := k w h
theorem ret_int {k : IntKind} {a b : Int} (h : a = b) : Ending.returned (.int k a) = .returned (.int k b) := by rw [h]
theorem ret_bool {a b : Bool} (h : a = b) : Ending.returned (.bool a) = .returned (.bool b) := by rw [h]
theorem size_alloc (w : World) (o : Obj) : (w.alloc o).heap.size = w.heap.size + 1 := by simp
theorem alloc_cell {w : World} {p : Addr} {x : Value} (o : Obj) (g : w.cell? p = some x) : (w.alloc o).cell? p = some x := (World.cell?_alloc_lt _ _ _ (World.block_lt_of_cell? _ _ g)).trans g

/-- An assertion to a type that is no interface, two-valued: met, not met. -/
theorem run_assert_hit {P : Program} {x t : TypeId} {d : TypeDesc} (hu : P.underlying t = some d) (hd : (match d with | .interface _ => false | _ => true) = true) (v : Value) (w : World) :
    (Instr.typeAssert (.iface t v) x t true).run P w = .ok (.tuple #[v, .bool true]) w := by
  unfold Instr.typeAssert
  cases d <;> simp_all [run_underlying hu]
theorem run_assert_miss {P : Program} {x t t' : TypeId} {d : TypeDesc} {z : Value} (hu : P.underlying t = some d) (hd : (match d with | .interface _ => false | _ => true) = true) (hz : ∀ w, (zeroValue t).run P w = .ok z w) (hne : t' ≠ t) (v : Value) (w : World) :
    (Instr.typeAssert (.iface t' v) x t true).run P w = .ok (.tuple #[z, .bool false]) w := by
  unfold Instr.typeAssert
  cases d <;> simp_all [run_underlying hu]

theorem heap_alloc2 (w : World) (o o' : Obj) : ((w.alloc o).alloc o').heap[w.heap.size]? = some o ∧ ((w.alloc o).alloc o').heap[w.heap.size + 1]? = some o' := by
  refine ⟨?_, ?_⟩
  · rw [Below.heap_alloc _ _ _ (by simp)]; exact heap_alloc_new w o
  · have := heap_alloc_new (w.alloc o) o'
    rwa [size_alloc] at this
theorem grown_on {a w w' : World} {row : Option Nat} (h : a.grownBy w row) (g : w.grownBy w' row) : a.grownBy w' row :=
  ⟨g.os.trans h.os, g.tape.trans h.tape, g.output.trans h.output, Nat.le_trans h.size g.size, fun k hk hne => (g.block k (Nat.lt_of_lt_of_le hk h.size) hne).trans (h.block k hk hne)⟩
theorem grown_drew {a w : World} {row : Option Nat} (h : a.grownBy w row) : a.grownBy w.drew row := ⟨h.os, h.tape, h.output, h.size, h.block⟩

theorem own_below {w w' : World} {base : Nat} {e : TypeId} {size : Nat} {v : Value} {n : Nat} {xs : List Value} (h : w.ownsRow base e size v n xs) (hb : Below w.heap.size w w') : w'.ownsRow base e size v n xs :=
  h.kept (row := none) ⟨hb.os, hb.tape, hb.output, hb.size, fun k hk _ => hb.block k hk⟩ (by cases hv : v.ownBlock <;> simp)
theorem own_lt {w : World} {base : Nat} {e : TypeId} {size g n c : Nat} {xs : List Value} (h : w.ownsRow base e size (.slice (some ⟨g, 0, none⟩) n c) n xs) : g < w.heap.size := (h.lt g rfl).2
/-- The cell of a literal of one element. -/
theorem one_new (w : World) (v : Value) (t : TypeId) : ∀ (j : Nat) (u : Value), [v][j]? = some u → (w.alloc (.cells #[v] t)).cell? ((⟨w.heap.size, 0, none⟩ : Addr).add j) = some u := by
  intro j u hj
  match j, hj with
  | 0, hj => simp at hj; subst hj; simp [Addr.add, World.cell?_alloc_new]

/-- A block laid, a callee that makes memory, a block laid, an append to row g: what was there, but for g, is there. -/
theorem step_cells {wr w2 w3 : World} {X Y : Obj} {g : Nat} (hb2 : Below (wr.alloc X).heap.size (wr.alloc X) w2) (hgr : (w2.alloc Y).grownBy w3 (some g)) :
    (∀ b o, b ≠ g → b < wr.heap.size → w3.cell? ⟨b, o, none⟩ = wr.cell? ⟨b, o, none⟩) ∧ (∀ b o, b ≠ g → b < w2.heap.size → w3.cell? ⟨b, o, none⟩ = w2.cell? ⟨b, o, none⟩) ∧ wr.heap.size < w2.heap.size ∧ w2.heap.size < w3.heap.size := by
  have hs := hb2.size
  have hs3 := hgr.size
  rw [size_alloc] at hs hs3
  have h2 : ∀ b o, b ≠ g → b < w2.heap.size → w3.cell? ⟨b, o, none⟩ = w2.cell? ⟨b, o, none⟩ := fun b o hne hb => by
    rw [World.cell?_of_block (a := ⟨b, o, none⟩) (hgr.block b (by rw [size_alloc]; omega) (by simpa using hne)), World.cell?_alloc_lt _ _ _ hb]
  refine ⟨fun b o hne hb => ?_, h2, hs, hs3⟩
  rw [h2 b o hne (by omega), hb2.cell (p := ⟨b, o, none⟩) (by simp; omega), World.cell?_alloc_lt _ _ _ hb]

theorem below_drewN {B : Nat} {a w : World} (h : Below B a w) (n : Nat) : Below B a (w.drewN n) := ⟨h.os, h.tape, h.output, h.size, h.block⟩
/-- What a call gives: a value, and new memory at most. -/
def Bel (v : Value) (w : World) (e : Ending) (w' : World) : Prop := e = .returned v ∧ Below w.heap.size w w'
theorem bel_then {v : Value} {w w1 : World} {e : Ending} {w' : World} (h1 : Below w.heap.size w w1) (h : Bel v w1 e w') : Bel v w e w' := ⟨h.1, h1.trans (h.2.mono h1.size)⟩

/-- A cell of a block that was laid before a callee ran. -/
theorem box_cell {w w1 : World} {cs : Array Value} {T : TypeId} {B : Nat} (hb : Below B (w.alloc (.cells cs T)) w1) (hB : w.heap.size < B) (j : Nat) : w1.cell? ⟨w.heap.size, j, none⟩ = cs[j]? :=
  (hb.cell (p := ⟨w.heap.size, j, none⟩) hB).trans (World.cell?_alloc_new _ _ _ _)
end Go.Proofs.YthjpphojddbbmaaGreatDoor

/-
  Plain numbers, no program: what the operations of package num come to. Conditions: none.
-/
namespace Go.Proofs.YthjpphojddbbmaaGreatDoor

/-- A number of 64 bits. -/
def rng (n : Int) : Bool := decide (-9223372036854775808 ≤ n ∧ n ≤ 9223372036854775807)
theorem rng_iff {n : Int} : rng n = true ↔ -9223372036854775808 ≤ n ∧ n ≤ 9223372036854775807 := by simp [rng]
theorem rng_not {n : Int} : rng n = false ↔ (n < -9223372036854775808 ∨ 9223372036854775807 < n) := by simp only [rng, decide_eq_false_iff_not]; omega

theorem sq_ne (m : Nat) : m * m ≠ 9223372036854775808 := by
  intro h
  rcases Nat.lt_or_ge m 3037000500 with hl | hl
  · have : m * m ≤ 3037000499 * 3037000499 := Nat.mul_le_mul (by omega) (by omega)
    omega
  · have : 3037000500 * 3037000500 ≤ m * m := Nat.mul_le_mul hl hl
    omega

/-- The add's test. -/
theorem add_test {a b : Int} (ha : rng a = true) (hb : rng b = true) :
    (decide (a < RowKit.wrap64 (a + b)) == decide (0 < b)) = rng (a + b) := by
  rw [rng_iff] at ha hb
  unfold RowKit.wrap64
  cases h : rng (a + b)
  · rw [rng_not] at h
    rw [beq_eq_false_iff_ne, ne_eq, decide_eq_decide]; omega
  · rw [rng_iff] at h
    rw [beq_iff_eq, decide_eq_decide]; omega
theorem sub_test {a b : Int} (ha : rng a = true) (hb : rng b = true) :
    (decide (RowKit.wrap64 (a - b) < a) == decide (0 < b)) = rng (a - b) := by
  rw [rng_iff] at ha hb
  unfold RowKit.wrap64
  cases h : rng (a - b)
  · rw [rng_not] at h
    rw [beq_eq_false_iff_ne, ne_eq, decide_eq_decide]; omega
  · rw [rng_iff] at h
    rw [beq_iff_eq, decide_eq_decide]; omega
theorem wrap_rng {n : Int} (h : rng n = true) : RowKit.wrap64 n = n := by rw [rng_iff] at h; unfold RowKit.wrap64; omega
/-- The product of two numbers without their signs, in two halves. -/
theorem mul_pos {p : Int} {hi lo : Nat} (hlo : lo < 18446744073709551616) (h : p = (hi * 18446744073709551616 + lo : Nat)) :
    RowKit.wrap64 (lo : Int) = RowKit.wrap64 p ∧ (decide (hi = 0 ∧ lo < 9223372036854775808)) = rng p := by
  refine ⟨by unfold RowKit.wrap64; omega, ?_⟩
  unfold rng; rw [decide_eq_decide]; omega
theorem mul_neg {p : Int} {hi lo : Nat} (hlo : lo < 18446744073709551616) (h : p = -((hi * 18446744073709551616 + lo : Nat) : Int)) :
    RowKit.wrap64 (-RowKit.wrap64 (lo : Int)) = RowKit.wrap64 p ∧ (decide (hi = 0 ∧ lo ≤ 9223372036854775808)) = rng p := by
  refine ⟨by unfold RowKit.wrap64; omega, ?_⟩
  unfold rng; rw [decide_eq_decide]; omega
theorem mul_same {a b : Int} {n : Nat} (h : n = a.natAbs * b.natAbs) (hs : (a < 0 ∧ b < 0) ∨ (¬ a < 0 ∧ ¬ b < 0)) : a * b = n := by
  subst h
  rcases hs with ⟨h1, h2⟩ | ⟨h1, h2⟩
  · rw [Int.natCast_mul, show ((a.natAbs : Nat) : Int) = -a by omega, show ((b.natAbs : Nat) : Int) = -b by omega, Int.neg_mul_neg]
  · rw [Int.natCast_mul, show ((a.natAbs : Nat) : Int) = a by omega, show ((b.natAbs : Nat) : Int) = b by omega]
theorem mul_diff {a b : Int} {n : Nat} (h : n = a.natAbs * b.natAbs) (hs : (a < 0 ∧ ¬ b < 0) ∨ (¬ a < 0 ∧ b < 0)) : a * b = -(n : Int) := by
  subst h
  rcases hs with ⟨h1, h2⟩ | ⟨h1, h2⟩
  · rw [Int.natCast_mul, show ((a.natAbs : Nat) : Int) = -a by omega, show ((b.natAbs : Nat) : Int) = b by omega, Int.neg_mul, Int.neg_neg]
  · rw [Int.natCast_mul, show ((a.natAbs : Nat) : Int) = a by omega, show ((b.natAbs : Nat) : Int) = -b by omega, Int.mul_neg, Int.neg_neg]
theorem natAbs_lt {a : Int} (h : rng a = true) : a.natAbs < 18446744073709551616 := by rw [rng_iff] at h; omega

theorem sq_pow (A : Int) (k : Nat) : (A * A) ^ k = A ^ (2 * k) := by
  induction k with
  | zero => simp
  | succ k ih => rw [Int.pow_succ, ih, show 2 * (k + 1) = 2 * k + 1 + 1 by omega, Int.pow_succ, Int.pow_succ, Int.mul_assoc]
theorem pow_even {A : Int} {n k : Nat} (h : n = 2 * k) : A ^ n = (A * A) ^ k := by rw [sq_pow, h]
theorem pow_odd {A : Int} {n k : Nat} (h : n = 2 * k + 1) : A ^ n = A * (A * A) ^ k := by rw [sq_pow, h, Int.pow_succ, Int.mul_comm]
theorem sq_pos {A : Int} (h : A ≠ 0) : 1 ≤ A * A := by
  have : 0 < A.natAbs * A.natAbs := Nat.mul_pos (by omega) (by omega)
  have e : ((A.natAbs * A.natAbs : Nat) : Int) = A * A := Int.natAbs_mul_self
  omega
theorem pow_pos1 {c : Int} (h : 1 ≤ c) (k : Nat) : 1 ≤ c ^ k := by
  induction k with
  | zero => simp
  | succ k ih =>
    rw [Int.pow_succ]
    have := Int.mul_le_mul ih h (by omega) (by omega)
    omega
theorem out_mul {m c : Int} (ho : rng m = false) (hc : 1 ≤ c) : rng (m * c) = false := by
  rw [rng_not] at ho ⊢
  rcases ho with h | h
  · left
    have := Int.mul_le_mul_of_nonneg_left hc (show 0 ≤ -m by omega)
    rw [Int.neg_mul, Int.mul_one] at this
    have e := Int.neg_mul m c
    omega
  · right
    have := Int.mul_le_mul_of_nonneg_left hc (show 0 ≤ m by omega)
    omega
theorem pow_over_mul {R A P : Int} {k : Nat} (hP : P = R * A * (A * A) ^ k) (ho : rng (R * A) = false) : rng P = false := by
  have hA : A ≠ 0 := by rintro rfl; simp [rng] at ho
  rw [hP]
  exact out_mul ho (pow_pos1 (sq_pos hA) k)
theorem natAbs_pow' (A : Int) (k : Nat) : (A ^ k).natAbs = A.natAbs ^ k := by
  induction k with
  | zero => simp
  | succ k ih => rw [Int.pow_succ, Int.natAbs_mul, ih, Nat.pow_succ]
theorem pow_over_sq {R A P : Int} {k : Nat} (hk : 0 < k) (hP : P = R * (A * A) ^ k) (hR : R ≠ 0) (ho : rng (A * A) = false) : rng P = false := by
  have hA : A ≠ 0 := by rintro rfl; simp [rng] at ho
  have h1 := sq_pos hA
  have h2 : 9223372036854775808 ≤ A * A := by rw [rng_not] at ho; omega
  obtain ⟨j, rfl⟩ : ∃ j, k = j + 1 := ⟨k - 1, by omega⟩
  have h3 : 9223372036854775808 ≤ (A * A) ^ (j + 1) := by
    rw [Int.pow_succ]
    have := Int.mul_le_mul_of_nonneg_right (pow_pos1 h1 j) (show 0 ≤ A * A by omega)
    omega
  have e : ((A ^ (j + 1)).natAbs * (A ^ (j + 1)).natAbs : Nat) = (A * A) ^ (j + 1) := by
    rw [Int.natAbs_mul_self, sq_pow, show 2 * (j + 1) = (j + 1) + (j + 1) by omega, Int.pow_add (m := j + 1) (n := j + 1)]
  have hs := sq_ne (A ^ (j + 1)).natAbs
  generalize hc : (A * A) ^ (j + 1) = c at *
  have h4 : c ≠ 9223372036854775808 := by omega
  rw [hP, rng_not]
  rcases Int.lt_or_gt_of_ne hR with h | h
  · left
    have := Int.mul_le_mul_of_nonneg_right (show R ≤ -1 by omega) (show 0 ≤ c by omega)
    omega
  · right
    have := Int.mul_le_mul_of_nonneg_right (show 1 ≤ R by omega) (show 0 ≤ c by omega)
    omega

theorem tdiv_rng {a b : Int} (ha : rng a = true) (hb : b ≠ 0) (h : ¬ (a = -9223372036854775808 ∧ b = -1)) : rng (a.tdiv b) = true := by
  rw [rng_iff] at ha ⊢
  rcases (show b = 1 ∨ b = -1 ∨ 2 ≤ b.natAbs by omega) with h1 | h1 | h1
  · subst h1; rw [Int.tdiv_one]; exact ha
  · subst h1; rw [Int.tdiv_neg, Int.tdiv_one]; omega
  · have e : (a.tdiv b).natAbs = a.natAbs / b.natAbs := Int.natAbs_tdiv a b
    have h2 : a.natAbs / b.natAbs ≤ a.natAbs / 2 := Nat.div_le_div_left h1 (by omega)
    omega
/-- What 'mod' leaves: of the divisor's sign. -/
def modR (a b : Int) : Int := if a.tmod b ≠ 0 ∧ ¬ (a.tmod b < 0 ↔ b < 0) then a.tmod b + b else a.tmod b
theorem tmod_facts {a b : Int} (hb : b ≠ 0) : a = b * a.tdiv b + a.tmod b ∧ (a.tmod b).natAbs < b.natAbs ∧ (0 ≤ a → 0 ≤ a.tmod b) ∧ (a ≤ 0 → a.tmod b ≤ 0) := by
  refine ⟨(Int.mul_tdiv_add_tmod a b).symm, ?_, fun h => Int.tmod_nonneg b h, fun h => ?_⟩
  · rw [Int.natAbs_tmod]; exact Nat.mod_lt _ (by omega)
  · have := Int.tmod_nonneg b (show 0 ≤ -a by omega)
    rw [Int.neg_tmod] at this
    omega
theorem tmod_m1 (a : Int) : a.tmod (-1) = 0 := by
  have := (tmod_facts (a := a) (b := -1) (by decide)).2.1
  omega
end Go.Proofs.YthjpphojddbbmaaGreatDoor

/-
  Plain values as data, how they lie in memory, and whether they may be: no program. Conditions: none.
-/
namespace Go.Proofs.YthjpphojddbbmaaGreatDoor
open Go.RowKit

/-- A plain value. -/
inductive Pl where
  | mk (kind num : Int) (text : ByteArray) (list : List Pl)
def Pl.kind : Pl → Int | .mk k _ _ _ => k
def Pl.num : Pl → Int | .mk _ n _ _ => n
def Pl.text : Pl → ByteArray | .mk _ _ t _ => t
def Pl.list : Pl → List Pl | .mk _ _ _ l => l

mutual
/-- Its four cells lie at a place of a block below B, and so on down. -/
def Pl.lies (w : World) (B : Nat) : Pl → Nat → Nat → Prop
  | .mk k n t l, b, o => b < B ∧ w.cell? ⟨b, o, none⟩ = some (.int .i64 k) ∧ w.cell? ⟨b, o + 1, none⟩ = some (.int .i64 n) ∧ w.cell? ⟨b, o + 2, none⟩ = some (.string t) ∧
      rng k = true ∧ rng n = true ∧ t.size ≤ 140737488351232 ∧ l.length * 56 ≤ 140737488351232 ∧ ∃ A c, w.cell? ⟨b, o + 3, none⟩ = some (.slice A l.length c) ∧ Pls.lies w B l A
/-- A row of them from an address on. -/
def Pls.lies (w : World) (B : Nat) : List Pl → Option Addr → Prop
  | [], _ => True
  | p :: ps, A => ∃ b o, A = some ⟨b, o, none⟩ ∧ Pl.lies w B p b o ∧ Pls.lies w B ps (some ⟨b, o + 4, none⟩)
end

mutual
theorem Pl.lies.keep {w w' : World} {B B' : Nat} (hk : ∀ b o, b < B → w'.cell? ⟨b, o, none⟩ = w.cell? ⟨b, o, none⟩) (hB : B ≤ B') : ∀ (p : Pl) (b o : Nat), p.lies w B b o → p.lies w' B' b o
  | .mk k n t l, b, o, h => by
    unfold Pl.lies at h ⊢
    obtain ⟨h0, h1, h2, h3, h4, h5, h6, h7, A, c, h8, h9⟩ := h
    exact ⟨by omega, (hk _ _ h0).trans h1, (hk _ _ h0).trans h2, (hk _ _ h0).trans h3, h4, h5, h6, h7, A, c, (hk _ _ h0).trans h8, Pls.lies.keep hk hB l A h9⟩
theorem Pls.lies.keep {w w' : World} {B B' : Nat} (hk : ∀ b o, b < B → w'.cell? ⟨b, o, none⟩ = w.cell? ⟨b, o, none⟩) (hB : B ≤ B') : ∀ (l : List Pl) (A : Option Addr), Pls.lies w B l A → Pls.lies w' B' l A
  | [], _, _ => by unfold Pls.lies; trivial
  | p :: ps, A, h => by
    unfold Pls.lies at h ⊢
    obtain ⟨b, o, e, h1, h2⟩ := h
    exact ⟨b, o, e, Pl.lies.keep hk hB p b o h1, Pls.lies.keep hk hB ps _ h2⟩
end
theorem Pl.lies.below {w w' : World} {B B' : Nat} {p : Pl} {b o : Nat} (h : p.lies w B b o) (hb : Below B w w') (hB : B ≤ B') : p.lies w' B' b o := h.keep (fun _ _ hh => hb.cell hh) hB
theorem Pls.lies.below {w w' : World} {B B' : Nat} {l : List Pl} {A : Option Addr} (h : Pls.lies w B l A) (hb : Below B w w') (hB : B ≤ B') : Pls.lies w' B' l A := h.keep (fun _ _ hh => hb.cell hh) hB
/-- One of a row. -/
theorem Pls.lies.at_ {w : World} {B : Nat} : ∀ {l : List Pl} {b o : Nat}, Pls.lies w B l (some ⟨b, o, none⟩) → ∀ (k : Nat) (h : k < l.length), l[k].lies w B b (o + k * 4)
  | [], _, _, _, k, h => absurd h (by simp)
  | p :: ps, b, o, hl, k, h => by
    unfold Pls.lies at hl
    obtain ⟨b', o', e, h1, h2⟩ := hl
    simp at e
    obtain ⟨rfl, rfl⟩ := e
    match k with
    | 0 => simpa using h1
    | k + 1 =>
      have := Pls.lies.at_ h2 k (by simpa using h)
      rw [show o + (k + 1) * 4 = o + 4 + k * 4 by omega]
      simpa using this
theorem Pls.lies.head {w : World} {B : Nat} {l : List Pl} {A : Option Addr} (h : Pls.lies w B l A) (hl : 0 < l.length) : ∃ b o, A = some ⟨b, o, none⟩ := by
  match l, h with
  | p :: ps, h =>
    unfold Pls.lies at h
    obtain ⟨b, o, e, _⟩ := h
    exact ⟨b, o, e⟩
theorem Pl.lt_of_mem {p : Pl} {l : List Pl} (k n : Int) (t : ByteArray) (h : p ∈ l) : SizeOf.sizeOf p < SizeOf.sizeOf (Pl.mk k n t l) := by
  have := List.sizeOf_lt_of_mem h
  simp; omega

mutual
/-- What zval's look at a plain value comes to: whether it is of a form that may be, and what is left. -/
def Pl.right : Pl → Int → Int → Bool × Int
  | .mk k n t l, left, deep =>
    if left - 1 < 0 ∨ 64 < deep ∨ (k ≠ 4 ∧ t.size ≠ 0) ∨ (k ≠ 5 ∧ 0 < l.length) then (false, left - 1)
    else if k = 2 then (decide (n = 0 ∨ n = 1), left - 1)
    else if k = 3 then (true, left - 1)
    else if k = 1 ∨ k = 4 then (decide (n = 0 ∧ 0 ≤ left - 1 - t.size), left - 1 - t.size)
    else if k = 5 then (((Pls.right l (left - 1) (deep + 1)).1 && decide (n = 0)), (Pls.right l (left - 1) (deep + 1)).2)
    else (false, left - 1)
/-- .. of one after the other. -/
def Pls.right : List Pl → Int → Int → Bool × Int
  | [], left, _ => (true, left)
  | p :: ps, left, deep => if (p.right left deep).1 then Pls.right ps (p.right left deep).2 deep else (false, (p.right left deep).2)
end

mutual
theorem Pl.right_le : ∀ (p : Pl) (left deep : Int), (p.right left deep).2 ≤ left ∧ ((p.right left deep).1 = true → 0 ≤ (p.right left deep).2)
  | .mk k n t l, left, deep => by
    have ih := Pls.right_le l (left - 1) (deep + 1)
    unfold Pl.right
    by_cases h : left - 1 < 0 ∨ 64 < deep ∨ (k ≠ 4 ∧ t.size ≠ 0) ∨ (k ≠ 5 ∧ 0 < l.length)
    · rw [if_pos h]; exact ⟨by simp only; omega, fun h => by cases h⟩
    · rw [if_neg h]
      by_cases h2 : k = 2
      · rw [if_pos h2]; exact ⟨by simp only; omega, fun _ => by simp only; omega⟩
      · rw [if_neg h2]
        by_cases h3 : k = 3
        · rw [if_pos h3]; exact ⟨by simp only; omega, fun _ => by simp only; omega⟩
        · rw [if_neg h3]
          by_cases h4 : k = 1 ∨ k = 4
          · rw [if_pos h4]; exact ⟨by simp only; omega, fun h => by simp only [decide_eq_true_eq] at h; simp only; omega⟩
          · rw [if_neg h4]
            by_cases h5 : k = 5
            · rw [if_pos h5]
              refine ⟨by have := ih.1; simp only; omega, fun h => ?_⟩
              simp only [Bool.and_eq_true] at h
              exact ih.2 (by omega) h.1
            · rw [if_neg h5]; exact ⟨by simp only; omega, fun h => by cases h⟩
theorem Pls.right_le : ∀ (l : List Pl) (left deep : Int), (Pls.right l left deep).2 ≤ left ∧ (0 ≤ left → (Pls.right l left deep).1 = true → 0 ≤ (Pls.right l left deep).2)
  | [], left, deep => by unfold Pls.right; exact ⟨Int.le_refl _, fun h _ => h⟩
  | p :: ps, left, deep => by
    have h1 := Pl.right_le p left deep
    have h2 := Pls.right_le ps (p.right left deep).2 deep
    unfold Pls.right
    by_cases h : (p.right left deep).1 = true
    · rw [if_pos h]; exact ⟨by omega, fun _ hh => h2.2 (h1.2 h) hh⟩
    · rw [if_neg h]; exact ⟨h1.1, fun _ hh => by cases hh⟩
end
theorem Pls.right_step {l : List Pl} {k : Nat} (h : k < l.length) (left deep : Int) :
    Pls.right (l.drop k) left deep = if (l[k].right left deep).1 then Pls.right (l.drop (k + 1)) (l[k].right left deep).2 deep else (false, (l[k].right left deep).2) := by
  rw [List.drop_eq_getElem_cons h, Pls.right]
theorem Pl.size_lt {k n : Int} {t : ByteArray} {l : List Pl} {j : Nat} (h : j < l.length) : SizeOf.sizeOf l[j] < SizeOf.sizeOf (Pl.mk k n t l) := Pl.lt_of_mem k n t (List.getElem_mem h)
theorem Pl.lies.grown {w w' : World} {B l : Nat} {p : Pl} {b o : Nat} (h : p.lies w B b o) (hg : w.grownBy w' (some l)) (hB : B ≤ l) (hs : B ≤ w.heap.size) : p.lies w' B b o :=
  h.keep (fun b o hb => World.cell?_of_block (hg.block b (by omega) (fun e => by injection e with e; omega))) (Nat.le_refl _)
theorem Pl.lies.drew {w : World} {B : Nat} {p : Pl} {b o : Nat} (h : p.lies w B b o) : p.lies w.drew B b o := h.keep (w := w) (w' := w.drew) (fun _ _ _ => rfl) (Nat.le_refl _)
theorem Pls.lies.drew {w : World} {B : Nat} {l : List Pl} {A : Option Addr} (h : Pls.lies w B l A) : Pls.lies w.drew B l A := h.keep (w := w) (w' := w.drew) (fun _ _ _ => rfl) (Nat.le_refl _)
theorem Pl.lies.parts {w : World} {B : Nat} {p : Pl} {b o : Nat} (h : p.lies w B b o) : b < B ∧ w.cell? ⟨b, o, none⟩ = some (.int .i64 p.kind) ∧ w.cell? ⟨b, o + 1, none⟩ = some (.int .i64 p.num) ∧ w.cell? ⟨b, o + 2, none⟩ = some (.string p.text) ∧
      p.list.length * 56 ≤ 140737488351232 ∧ ∃ A c, w.cell? ⟨b, o + 3, none⟩ = some (.slice A p.list.length c) ∧ Pls.lies w B p.list A := by
  obtain ⟨k, n, t, l⟩ := p
  unfold Pl.lies at h
  obtain ⟨h0, h1, h2, h3, h4, h5, h6, h7, A, c, h8, h9⟩ := h
  exact ⟨h0, h1, h2, h3, h7, A, c, h8, h9⟩
theorem Pl.lies.text {w : World} {B : Nat} {p : Pl} {b o : Nat} (h : p.lies w B b o) : p.text.size ≤ 140737488351232 := by
  obtain ⟨k, n, t, l⟩ := p
  unfold Pl.lies at h
  exact h.2.2.2.2.2.2.1
theorem Pl.lies.nums {w : World} {B : Nat} {p : Pl} {b o : Nat} (h : p.lies w B b o) : rng p.kind = true ∧ rng p.num = true := by
  obtain ⟨k, n, t, l⟩ := p
  unfold Pl.lies at h
  exact ⟨h.2.2.2.2.1, h.2.2.2.2.2.1⟩
/-- A copy of its four cells in a new block. -/
theorem Pl.lies.copy {w : World} {B : Nat} {p : Pl} {b o : Nat} (h : p.lies w B b o) (hB : B ≤ w.heap.size) {A : Option Addr} {c : Nat} (hc : w.cell? ⟨b, o + 3, none⟩ = some (.slice A p.list.length c)) (T : TypeId) :
    p.lies (w.alloc (.cells #[.int .i64 p.kind, .int .i64 p.num, .string p.text, .slice A p.list.length c] T)) (w.heap.size + 1) w.heap.size 0 ∧ Pls.lies w B p.list A := by
  obtain ⟨k, n, t, l⟩ := p
  unfold Pl.lies at h ⊢
  obtain ⟨h0, h1, h2, h3, h4, h5, h6, h7, A', c', h8, h9⟩ := h
  rw [hc] at h8
  injection h8 with h8
  injection h8 with h8 _ h10
  subst h8
  refine ⟨⟨by omega, ?_, ?_, ?_, h4, h5, h6, h7, A, c, ?_, h9.keep (fun b o hb => World.cell?_alloc_lt _ _ _ (by simp; omega)) (by omega)⟩, h9⟩
  all_goals rw [World.cell?_alloc_new]; rfl
end Go.Proofs.YthjpphojddbbmaaGreatDoor

/-
  The blocks that a call has made. Conditions: none.
-/
namespace Go.Proofs.YthjpphojddbbmaaGreatDoor
/-- The blocks that a call has made. -/
def fresh (w w' : World) (b : Nat) : Prop := w.heap.size ≤ b ∧ b < w'.heap.size
open Go.RowKit
theorem blk_set {w : World} {g : Nat} {t : TypeId} {cs : Array Value} (h : w.heap[g]? = some (.cells cs t (0, 0))) (i : Nat) (u : Value) : (w.setCell ⟨g, i, none⟩ u).heap[g]? = some (.cells (cs.setIfInBounds i u) t (0, 0)) := by
  simp [World.setCell, Array.getElem?_modify, h]
theorem blk_far {w : World} {g : Nat} {o : Obj} (h : w.heap[g]? = some o) {p : Addr} (hp : g ≠ p.block) (u : Value) : (w.setCell p u).heap[g]? = some o := (Below.heap_setCell w p u g hp).trans h
theorem size_set (w : World) (p : Addr) (u : Value) : (w.setCell p u).heap.size = w.heap.size := by simp [World.setCell]
theorem cell_far (w : World) {p : Addr} (u : Value) {b : Nat} (h : b ≠ p.block) (o : Nat) : (w.setCell p u).cell? ⟨b, o, none⟩ = w.cell? ⟨b, o, none⟩ :=
  World.cell?_of_block (a := ⟨b, o, none⟩) (Below.heap_setCell w p u b h)
/-- One result, that lies in a variable. -/
theorem results_cell {P : Program} {fn : Func} {p : Tmp} {ty : TypeId} (h : fn.results = #[.cell p ty]) {tmps : Array Value} {a : Addr} (ht : tmps.getD p undef = .pointer (some a)) {w : World} {v : Value} (hl : (loadVar ty a).run P w = .ok v w) :
    (results fn tmps).run P w = .ok v w := by
  unfold results
  simp only [h]
  have ht' : tmps[p]?.getD undef = .pointer (some a) := by simpa using ht
  simp [ht', asAddr, hl]
end Go.Proofs.YthjpphojddbbmaaGreatDoor

/-
  Values as data, and how they lie in memory. Conditions: none.
-/
namespace Go.Proofs.YthjpphojddbbmaaGreatDoor
open Go.RowKit
set_option linter.unusedVariables false

/-- A value. -/
inductive Vl where
  | unit
  | truth (b : Bool)
  | int (n : Int)
  | text (s : ByteArray)
  | list (l : List Vl)

mutual
/-- A run-time value is that value, its lists' cells in blocks of S. -/
def Vl.is (w : World) (S : Nat → Prop) : Vl → Value → Prop
  | .unit, v => v = .iface 157 (.agg #[])
  | .truth b, v => v = .iface 47 (.bool b)
  | .int n, v => v = .iface 75 (.int .i64 n)
  | .text s, v => v = .iface 77 (.string s)
  | .list l, v => ∃ A c, v = .iface 158 (.slice A l.length c) ∧ Vls.lies w S l A
/-- .. one after the other from an address on. -/
def Vls.lies (w : World) (S : Nat → Prop) : List Vl → Option Addr → Prop
  | [], _ => True
  | x :: xs, A => ∃ b o u, A = some ⟨b, o, none⟩ ∧ S b ∧ w.cell? ⟨b, o, none⟩ = some u ∧ Vl.is w S x u ∧ Vls.lies w S xs (some ⟨b, o + 1, none⟩)
end

mutual
theorem Vl.is.keep {w w' : World} {S S' : Nat → Prop} (hk : ∀ b o, S b → w'.cell? ⟨b, o, none⟩ = w.cell? ⟨b, o, none⟩) (hS : ∀ b, S b → S' b) : ∀ (x : Vl) (v : Value), x.is w S v → x.is w' S' v
  | .unit, v, h => by unfold Vl.is at h ⊢; exact h
  | .truth b, v, h => by unfold Vl.is at h ⊢; exact h
  | .int n, v, h => by unfold Vl.is at h ⊢; exact h
  | .text s, v, h => by unfold Vl.is at h ⊢; exact h
  | .list l, v, h => by
    unfold Vl.is at h ⊢
    obtain ⟨A, c, h1, h2⟩ := h
    exact ⟨A, c, h1, Vls.lies.keep hk hS l A h2⟩
theorem Vls.lies.keep {w w' : World} {S S' : Nat → Prop} (hk : ∀ b o, S b → w'.cell? ⟨b, o, none⟩ = w.cell? ⟨b, o, none⟩) (hS : ∀ b, S b → S' b) : ∀ (l : List Vl) (A : Option Addr), Vls.lies w S l A → Vls.lies w' S' l A
  | [], A, h => by unfold Vls.lies; trivial
  | x :: xs, A, h => by
    unfold Vls.lies at h ⊢
    obtain ⟨b, o, u, e, h1, h2, h3, h4⟩ := h
    exact ⟨b, o, u, e, hS b h1, (hk b o h1).trans h2, Vl.is.keep hk hS x u h3, Vls.lies.keep hk hS xs _ h4⟩
end
theorem Vls.lies.at_ {w : World} {S : Nat → Prop} : ∀ {l : List Vl} {b o : Nat}, Vls.lies w S l (some ⟨b, o, none⟩) → ∀ (k : Nat) (h : k < l.length), S b ∧ ∃ u, w.cell? ⟨b, o + k, none⟩ = some u ∧ l[k].is w S u
  | [], _, _, _, k, h => absurd h (by simp)
  | x :: xs, b, o, hl, k, h => by
    unfold Vls.lies at hl
    obtain ⟨b', o', u, e, h1, h2, h3, h4⟩ := hl
    simp at e
    obtain ⟨rfl, rfl⟩ := e
    match k with
    | 0 => exact ⟨h1, u, by simpa using h2, by simpa using h3⟩
    | k + 1 =>
      obtain ⟨g1, u', g2, g3⟩ := Vls.lies.at_ h4 k (by simpa using h)
      exact ⟨g1, u', by rw [show o + (k + 1) = o + 1 + k by omega]; exact g2, by simpa using g3⟩
theorem Vls.lies.head {w : World} {S : Nat → Prop} {l : List Vl} {A : Option Addr} (h : Vls.lies w S l A) (hl : 0 < l.length) : ∃ b o, A = some ⟨b, o, none⟩ := by
  match l, h with
  | p :: ps, h =>
    unfold Vls.lies at h
    obtain ⟨b, o, u, e, _⟩ := h
    exact ⟨b, o, e⟩
/-- Together out of their cells. -/
theorem Vls.lies.of {w : World} {S : Nat → Prop} : ∀ {l : List Vl} {us : List Value} {b o : Nat}, us.length = l.length → (0 < l.length → S b) → (∀ j u, us[j]? = some u → w.cell? ⟨b, o + j, none⟩ = some u) →
    (∀ j (h : j < l.length) (h' : j < us.length), l[j].is w S us[j]) → Vls.lies w S l (some ⟨b, o, none⟩)
  | [], _, _, _, _, _, _, _ => by unfold Vls.lies; trivial
  | x :: xs, [], _, _, h, _, _, _ => by simp at h
  | x :: xs, u :: us, b, o, h, hS, hc, hi => by
    unfold Vls.lies
    refine ⟨b, o, u, rfl, hS (by simp), by simpa using hc 0 u rfl, hi 0 (by simp) (by simp), Vls.lies.of (us := us) (by simpa using h) (fun _ => hS (by simp)) (fun j v hj => ?_) (fun j h1 h2 => ?_)⟩
    · have := hc (j + 1) v (by simpa using hj)
      rw [show o + 1 + j = o + (j + 1) by omega]; exact this
    · exact hi (j + 1) (by simpa using h1) (by simpa using h2)

mutual
/-- The value of a plain one that may be. -/
def Pl.toVl : Pl → Vl
  | .mk k n t l => if k = 2 then .truth (decide (n = 1)) else if k = 3 then .int n else if k = 4 then .text t else if k = 5 then .list (Pls.toVl l) else .unit
def Pls.toVl : List Pl → List Vl
  | [] => []
  | p :: ps => p.toVl :: Pls.toVl ps
end
theorem Pls.toVl_length : ∀ l : List Pl, (Pls.toVl l).length = l.length
  | [] => by simp [Pls.toVl]
  | p :: ps => by simp [Pls.toVl, Pls.toVl_length ps]
theorem Pls.toVl_get : ∀ (l : List Pl) (j : Nat) (h : j < l.length) (h' : j < (Pls.toVl l).length), (Pls.toVl l)[j] = l[j].toVl
  | p :: ps, 0, _, _ => by simp [Pls.toVl]
  | p :: ps, j + 1, h, h' => by simp [Pls.toVl]; exact Pls.toVl_get ps j (by simpa using h) _
theorem Vl.is.iface {w : World} {S : Nat → Prop} {x : Vl} {v : Value} (h : x.is w S v) : ∃ u y, v = .iface u y := by
  cases x <;> unfold Vl.is at h
  case list l => obtain ⟨A, c, h, _⟩ := h; exact ⟨_, _, h⟩
  all_goals exact ⟨_, _, h⟩

mutual
/-- Its numbers are of 64 bits, its texts and lists within a row's reach. -/
def Vl.fine : Vl → Prop
  | .int n => rng n = true
  | .text s => s.size ≤ 140737488351232
  | .list l => l.length ≤ 140737488351232 ∧ Vls.fine l
  | _ => True
def Vls.fine : List Vl → Prop
  | [] => True
  | x :: xs => Vl.fine x ∧ Vls.fine xs
end
theorem Vls.fine.at_ : ∀ {l : List Vl}, Vls.fine l → ∀ (k : Nat) (h : k < l.length), l[k].fine
  | x :: xs, h, 0, _ => by unfold Vls.fine at h; exact h.1
  | x :: xs, h, k + 1, hk => by unfold Vls.fine at h; exact Vls.fine.at_ h.2 k (by simpa using hk)
mutual
/-- What zval's measure leaves. -/
def Vl.measure : Vl → Int → Int → Int
  | .text s, left, _ => left - 1 - s.size
  | .list l, left, deep => if 64 ≤ deep then -1 else Vls.measure l (left - 1) (deep + 1)
  | _, left, _ => left - 1
def Vls.measure : List Vl → Int → Int → Int
  | [], left, _ => left
  | x :: xs, left, deep => if x.measure left deep < 0 then x.measure left deep else Vls.measure xs (x.measure left deep) deep
end
mutual
theorem Vl.measure_le : ∀ (x : Vl) (left deep : Int), x.measure left deep ≤ max left (-1)
  | .unit, left, deep => by unfold Vl.measure; omega
  | .truth _, left, deep => by unfold Vl.measure; omega
  | .int _, left, deep => by unfold Vl.measure; omega
  | .text s, left, deep => by unfold Vl.measure; omega
  | .list l, left, deep => by
    have ih := Vls.measure_le l (left - 1) (deep + 1)
    unfold Vl.measure
    by_cases hd : 64 ≤ deep
    · rw [if_pos hd]; omega
    · rw [if_neg hd]; omega
theorem Vls.measure_le : ∀ (l : List Vl) (left deep : Int), Vls.measure l left deep ≤ max left (-1)
  | [], left, deep => by unfold Vls.measure; omega
  | x :: xs, left, deep => by
    have h1 := Vl.measure_le x left deep
    have h2 := Vls.measure_le xs (x.measure left deep) deep
    unfold Vls.measure
    by_cases h : x.measure left deep < 0
    · rw [if_pos h]; omega
    · rw [if_neg h]; omega
end
theorem Vls.measure_step {l : List Vl} {k : Nat} (h : k < l.length) (left deep : Int) :
    Vls.measure (l.drop k) left deep = if l[k].measure left deep < 0 then l[k].measure left deep else Vls.measure (l.drop (k + 1)) (l[k].measure left deep) deep := by
  rw [List.drop_eq_getElem_cons h, Vls.measure]
theorem Vl.size_lt {l : List Vl} {j : Nat} (h : j < l.length) : SizeOf.sizeOf l[j] < SizeOf.sizeOf (Vl.list l) := by
  have := List.sizeOf_lt_of_mem (List.getElem_mem h)
  simp; omega

mutual
theorem Pl.lies.fine {w : World} {B : Nat} : ∀ (p : Pl) (b o : Nat), p.lies w B b o → p.toVl.fine
  | .mk k n t l, b, o, h => by
    unfold Pl.lies at h
    obtain ⟨h0, h1, h2, h3, h4, h5, h6, h7, A, c, h8, h9⟩ := h
    have ih := Pls.lies.fine l A h9
    unfold Pl.toVl
    by_cases c2 : k = 2
    · rw [if_pos c2]; unfold Vl.fine; trivial
    · rw [if_neg c2]
      by_cases c3 : k = 3
      · rw [if_pos c3]; unfold Vl.fine; exact h5
      · rw [if_neg c3]
        by_cases c4 : k = 4
        · rw [if_pos c4]; unfold Vl.fine; exact h6
        · rw [if_neg c4]
          by_cases c5 : k = 5
          · rw [if_pos c5]; unfold Vl.fine; exact ⟨by rw [Pls.toVl_length]; omega, ih⟩
          · rw [if_neg c5]; unfold Vl.fine; trivial
theorem Pls.lies.fine {w : World} {B : Nat} : ∀ (l : List Pl) (A : Option Addr), Pls.lies w B l A → Vls.fine (Pls.toVl l)
  | [], A, h => by unfold Pls.toVl Vls.fine; trivial
  | p :: ps, A, h => by
    unfold Pls.lies at h
    obtain ⟨b, o, e, h1, h2⟩ := h
    unfold Pls.toVl Vls.fine
    exact ⟨Pl.lies.fine p b o h1, Pls.lies.fine ps _ h2⟩
end
/-- It may be: of a form, not too great, not too deep. -/
def Pl.ok (p : Pl) : Bool := (p.right 65536 0).1 && decide (0 ≤ p.toVl.measure 65536 0)
/-- An owned row of values reads as values. -/
theorem Vls.lies.of_own {w : World} {S : Nat → Prop} {base : Nat} {l : List Vl} {us : List Value} {v : Value} {e : TypeId} {n : Nat} (hn : us.length = n) (hl : us.length = l.length) (hown : w.ownsRow base e 1 v n us)
    (hS : ∀ g, v.ownBlock = some g → 0 < n → S g) (hi : ∀ j (h : j < l.length) (h' : j < us.length), l[j].is w S us[j]) : ∃ A c, v = .slice A n c ∧ Vls.lies w S l A := by
  rcases hown.2 with ⟨rfl, rfl⟩ | ⟨g, cap, cur, rfl, _⟩
  · have : l = [] := List.eq_nil_of_length_eq_zero (by omega)
    subst this
    exact ⟨none, 0, rfl, by unfold Vls.lies; trivial⟩
  · exact ⟨_, _, rfl, Vls.lies.of hl (fun h => hS g rfl (by omega)) (fun j u hj => by
      have h1 : j < us.length := by
        rcases Nat.lt_or_ge j us.length with h | h
        · exact h
        · rw [List.getElem?_eq_none h] at hj; cases hj
      rw [Nat.zero_add, hown.cellAt j (by omega)]; exact hj) hi⟩
end Go.Proofs.YthjpphojddbbmaaGreatDoor
