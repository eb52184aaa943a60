/-
  Small laws over any program, for the proofs of this seat: worlds with new blocks; a region that draws its order and whose operations read old memory or make new; the row's last step. Conditions: none.
-/
import Derived.WalkKit
import Derived.WalkSpells
import Derived.WalkLawsBesides
import Derived.ProofKit
import Derived.OpenShut
import Derived.Deep.QuietTactic
import Derived.BigQuiet
import Derived.Below
import Derived.ChangeSame
import Derived.Lib.Hide
import Derived.Maps.AppendAt
namespace Go.Proofs.YthjpphojddbbmaaGreatDoor
open Go.RowKit Go.WideShapes Go.ChangeShapes

section
variable {H : Type} {enc : TypeId × Value → H} {P : Program}
theorem post_of_below {f : Func} {s : ChangeSpec} {apart fresh handsOn again : Bool} {W W' : World} {args : Array Value} {v : Value} {ds gs : List (DataW H)} {before pa pv : List MemPlace}
    (hW : DataW.Whole enc P f.params.toList s.vars apart W args.toList ds gs before)
    (hres : ∀ (b : Nat) (sp : Nat → Bool) (hd : Bool), DataW.TrodAll enc P W' b sp hd f.resultTypes.toList (v.resultList f.resultTypes.size) (s.fn H (ds ++ gs)).results [])
    (hargs : ∀ sp : Nat → Bool, (∀ p ∈ before, sp p.block = true) → DataW.TrodAll enc P W' 0 sp true f.params.toList args.toList (s.fn H (ds ++ gs)).args pa)
    (hvars : ∀ sp : Nat → Bool, (∀ p ∈ before, sp p.block = true) → DataW.TrodVars enc P W' sp s.vars (s.fn H (ds ++ gs)).vars pv)
    (hps : before = pa ++ pv) (hb : Below W.heap.size W W')
    (hok : ∀ (j : Nat) (t : TypeId) (r : Value), f.resultTypes[j]? = some t → (v.resultList f.resultTypes.size)[j]? = some r → Value.okWide P W' .any 0 t r) :
    s.post enc P f apart fresh handsOn again W args v W' := by
  have hlt : ∀ p ∈ before, p.block < W.heap.size := fun p hp => hW.lt p hp
  have hold : ∀ p ∈ before, (fun b => decide (b < W.heap.size)) p.block = true := fun p hp => by simpa using hlt p hp
  refine ⟨ds, gs, before, [], pa, pv, hW, hres _ _ _, hargs _ hold, hvars _ hold, World.keptBut_mono (fun p hp => ⟨hp, ?_⟩) (hb.frame (· ∈ before)), fun _ => ?_⟩
  · rw [hps, List.mem_append] at hp
    exact Or.inr hp
  · obtain ⟨_, _, _, _, _, hz, hn⟩ := hW
    refine ⟨hok, _, _, ([] ++ pa) ++ pv, ⟨[] ++ pa, pv, trodAll_append (hargs _ (fun _ _ => rfl)) (hres _ _ _), hvars _ (fun _ _ => rfl), rfl, ?_, ?_⟩, ?_⟩
    · intro b off hp
      have hin : MemPlace.cell b off ∈ before := by rw [hps]; simpa using hp
      rw [hb.frozen (hlt _ hin)]
      exact hz b off hin
    · intro ha
      have := hn ha
      rw [hps] at this
      simpa using this
    · intro p hp _
      rw [hps]
      simpa using hp
end

/-- The worlds that are 'w' with new blocks. -/
structure Ext (w : World) where
  now : World
  ok : Below w.heap.size w now
instance (w : World) : Nonempty (Ext w) := ⟨⟨w, Below.refl _ _⟩⟩
theorem Ext.cell {w : World} {p : Addr} {v : Value} (h : w.cell? p = some v) (x : Ext w) : x.now.cell? p = some v := by
  rw [x.ok.cell (World.block_lt_of_cell? _ _ h)]; exact h
/-- A region that draws its order, whose operations read old memory, and whose callees hand back known values and at most make new memory: one walk, in the text's order. -/
theorem wp_region_ext {P : Program} {id : Nat} {Q : Exit → Act → World → Prop} {a : Act} {w : World} {l : List Oper} (hm : P.follows .mixedOrders = true) (hB : Region.lexB .any l.toArray = true)
    (h : wpQuiet P l.toArray (fun w' => ∃ x : Ext w, w' = x.now) (fun a' => ∀ w', (∃ x : Ext w, w' = x.now) → Q .normal a' w') l a) : (Code.region id l.toArray true).wp P Q a w :=
  wp_region_quiet (C := fun w' => ∃ x : Ext w, w' = x.now) hm hB ⟨⟨_, (Below.refl _ _).drew⟩, rfl⟩ (by simpa using h)
theorem Calls.ext_of {P : Program} {f : FuncId} {args : Array Value} {w : World} {x : Ext w} {v : Value}
    (h : Calls P f args x.now fun e w' => e = .returned v ∧ Below x.now.heap.size x.now w') : Calls P f args x.now fun e w'' => e = .returned v ∧ ∃ y : Ext w, w'' = y.now :=
  h.mono fun _ _ ⟨he, hb⟩ => ⟨he, ⟨_, x.ok.trans (hb.mono x.ok.size)⟩, rfl⟩
theorem Calls.ext_of_same {P : Program} {f : FuncId} {args : Array Value} {w : World} {x : Ext w} {v : Value}
    (h : Calls P f args x.now fun e w' => e = .returned v ∧ x.now = w') : Calls P f args x.now fun e w'' => e = .returned v ∧ ∃ y : Ext w, w'' = y.now :=
  h.mono fun _ _ ⟨he, hb⟩ => ⟨he, x, hb.symm⟩
/-- What stands behind is shown of every world that meets R. -/
theorem gen {P : Program} {c : Code} {Q : Exit → Act → World → Prop} {a : Act} {w : World} (R : World → Prop) (h : R w) (k : ∀ w', R w' → c.wp P Q a w') : c.wp P Q a w := k w h
theorem ret_int {k : IntKind} {a b : Int} (h : a = b) : Ending.returned (.int k a) = .returned (.int k b) := by rw [h]
theorem ret_bool {a b : Bool} (h : a = b) : Ending.returned (.bool a) = .returned (.bool b) := by rw [h]
theorem size_alloc (w : World) (o : Obj) : (w.alloc o).heap.size = w.heap.size + 1 := by simp
theorem alloc_cell {w : World} {p : Addr} {x : Value} (o : Obj) (g : w.cell? p = some x) : (w.alloc o).cell? p = some x := (World.cell?_alloc_lt _ _ _ (World.block_lt_of_cell? _ _ g)).trans g

/-- An assertion to a type that is no interface, two-valued: met, not met. -/
theorem run_assert_hit {P : Program} {x t : TypeId} {d : TypeDesc} (hu : P.underlying t = some d) (hd : (match d with | .interface _ => false | _ => true) = true) (v : Value) (w : World) :
    (Instr.typeAssert (.iface t v) x t true).run P w = .ok (.tuple #[v, .bool true]) w := by
  unfold Instr.typeAssert
  cases d <;> simp_all [run_underlying hu]
theorem run_assert_miss {P : Program} {x t t' : TypeId} {d : TypeDesc} {z : Value} (hu : P.underlying t = some d) (hd : (match d with | .interface _ => false | _ => true) = true) (hz : ∀ w, (zeroValue t).run P w = .ok z w) (hne : t' ≠ t) (v : Value) (w : World) :
    (Instr.typeAssert (.iface t' v) x t true).run P w = .ok (.tuple #[z, .bool false]) w := by
  unfold Instr.typeAssert
  cases d <;> simp_all [run_underlying hu]

theorem heap_alloc2 (w : World) (o o' : Obj) : ((w.alloc o).alloc o').heap[w.heap.size]? = some o ∧ ((w.alloc o).alloc o').heap[w.heap.size + 1]? = some o' := by
  refine ⟨?_, ?_⟩
  · rw [Below.heap_alloc _ _ _ (by simp)]; exact heap_alloc_new w o
  · have := heap_alloc_new (w.alloc o) o'
    rwa [size_alloc] at this
theorem grown_on {a w w' : World} {row : Option Nat} (h : a.grownBy w row) (g : w.grownBy w' row) : a.grownBy w' row :=
  ⟨g.os.trans h.os, g.tape.trans h.tape, g.output.trans h.output, Nat.le_trans h.size g.size, fun k hk hne => (g.block k (Nat.lt_of_lt_of_le hk h.size) hne).trans (h.block k hk hne)⟩
theorem grown_drew {a w : World} {row : Option Nat} (h : a.grownBy w row) : a.grownBy w.drew row := ⟨h.os, h.tape, h.output, h.size, h.block⟩

theorem own_below {w w' : World} {base : Nat} {e : TypeId} {size : Nat} {v : Value} {n : Nat} {xs : List Value} (h : w.ownsRow base e size v n xs) (hb : Below w.heap.size w w') : w'.ownsRow base e size v n xs :=
  h.kept (row := none) ⟨hb.os, hb.tape, hb.output, hb.size, fun k hk _ => hb.block k hk⟩ (by cases hv : v.ownBlock <;> simp)
theorem own_lt {w : World} {base : Nat} {e : TypeId} {size g n c : Nat} {xs : List Value} (h : w.ownsRow base e size (.slice (some ⟨g, 0, none⟩) n c) n xs) : g < w.heap.size := (h.lt g rfl).2
/-- The cell of a literal of one element. -/
theorem one_new (w : World) (v : Value) (t : TypeId) : ∀ (j : Nat) (u : Value), [v][j]? = some u → (w.alloc (.cells #[v] t)).cell? ((⟨w.heap.size, 0, none⟩ : Addr).add j) = some u := by
  intro j u hj
  match j, hj with
  | 0, hj => simp at hj; subst hj; simp [Addr.add, World.cell?_alloc_new]

/-- A block laid, a callee that makes memory, a block laid, an append to row g: what was there, but for g, is there. -/
theorem step_cells {wr w2 w3 : World} {X Y : Obj} {g : Nat} (hb2 : Below (wr.alloc X).heap.size (wr.alloc X) w2) (hgr : (w2.alloc Y).grownBy w3 (some g)) :
    (∀ b o, b ≠ g → b < wr.heap.size → w3.cell? ⟨b, o, none⟩ = wr.cell? ⟨b, o, none⟩) ∧ (∀ b o, b ≠ g → b < w2.heap.size → w3.cell? ⟨b, o, none⟩ = w2.cell? ⟨b, o, none⟩) ∧ wr.heap.size < w2.heap.size ∧ w2.heap.size < w3.heap.size := by
  have hs := hb2.size
  have hs3 := hgr.size
  rw [size_alloc] at hs hs3
  have h2 : ∀ b o, b ≠ g → b < w2.heap.size → w3.cell? ⟨b, o, none⟩ = w2.cell? ⟨b, o, none⟩ := fun b o hne hb => by
    rw [World.cell?_of_block (a := ⟨b, o, none⟩) (hgr.block b (by rw [size_alloc]; omega) (by simpa using hne)), World.cell?_alloc_lt _ _ _ hb]
  refine ⟨fun b o hne hb => ?_, h2, hs, hs3⟩
  rw [h2 b o hne (by omega), hb2.cell (p := ⟨b, o, none⟩) (by simp; omega), World.cell?_alloc_lt _ _ _ hb]

theorem below_drewN {B : Nat} {a w : World} (h : Below B a w) (n : Nat) : Below B a (w.drewN n) := ⟨h.os, h.tape, h.output, h.size, h.block⟩
/-- What a call gives: a value, and new memory at most. -/
def Bel (v : Value) (w : World) (e : Ending) (w' : World) : Prop := e = .returned v ∧ Below w.heap.size w w'
theorem bel_then {v : Value} {w w1 : World} {e : Ending} {w' : World} (h1 : Below w.heap.size w w1) (h : Bel v w1 e w') : Bel v w e w' := ⟨h.1, h1.trans (h.2.mono h1.size)⟩

/-- A cell of a block that was laid before a callee ran. -/
theorem box_cell {w w1 : World} {cs : Array Value} {T : TypeId} {B : Nat} (hb : Below B (w.alloc (.cells cs T)) w1) (hB : w.heap.size < B) (j : Nat) : w1.cell? ⟨w.heap.size, j, none⟩ = cs[j]? :=
  (hb.cell (p := ⟨w.heap.size, j, none⟩) hB).trans (World.cell?_alloc_new _ _ _ _)
end Go.Proofs.YthjpphojddbbmaaGreatDoor
