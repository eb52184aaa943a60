/-
  What is proved: 'espalierlaw0.Names' returns true (Rows.NamesSaid): the names of package api stand for the document's numbers. Conditions: none (the function takes no argument).
-/
import Derived.Test.YthhacpfgcaplcaaRows
import Derived.WalkKit
import Derived.ProofKit
import Derived.OpenShut
import Derived.Deep.QuietTactic
import Derived.BigQuiet
namespace Go.Proofs.Ythhacpfgcaplcaa.names
open Go.ChangeShapes Go.WideShapes Go.ChangeAt Go.RowKit
set_option linter.unusedVariables false      -- a walk need not use every 'w<i>' (that an integer argument fits its kind)

theorem own : ownKnob Try.prog.godebug = none := by kernel_rfl

def els : List Int := [0, 1, 2, 3, 4, 5, 6, 10, 11, 12, 13, 14, 20, 21, 22, 23, 24, 25, 30, 31, 32, 33, 40, 41, 42, 43]
def all : List Int := [0, 1, 2, 3, 4, 5, 6, 10, 11, 12, 13, 14, 20, 21, 22, 23, 24, 25, 30, 31, 32, 33, 40, 41, 42, 43, 1024, 64, 16384, 65536, 64, 128, 1024, 64, 256, 16, 64, 4294967296, 67108864, 1048576, 4194304, 64, 64, 4096, 16, 64, 1, 2, 3, 4, 5, 0, 1, 2, 3, 4, 1, 2, 3, 4, 5, 6, 7, 8, 9, 10, 11, 12, 13, 14, 64, 256, 1, 2, 65536, 4096, 4096, 1024, 1, 2, 3, 4, 5, 6, 7, 8, 9, 10, 11, 12, 13, 14, 15, 16, 17, 18, 19, 20, 21, 22, 23, 24, 25, 1, 2, 3, 4, 5, 6, 7, 4096, 65536]

/-- two new rows of the same numbers. -/
def Two (w w' : World) (b n : Nat) (l : List Int) : Prop :=
  (∀ k, k < n → w'.cell? ⟨b, k, none⟩ = some (.int .i64 (l.getD k 0))) ∧
  (∀ k, k < n → w'.cell? ⟨b + 1, k, none⟩ = some (.int .i64 (l.getD k 0))) ∧ Grown w w' ∧ w'.heap.size = b + 2

theorem cells_at (l : List Int) (k : Nat) (h : k < l.length) : ((l.map (Value.int .i64)).toArray)[k]? = some (.int .i64 (l.getD k 0)) := by
  simp [h]

theorem two_new (w v : World) (l : List Int) (t : TypeId) (hg : Grown w v) (a : Array Value) (ha : a = (l.map (Value.int .i64)).toArray) :
    Two w ((v.alloc (.cells a t)).alloc (.cells a t)) v.heap.size l.length l := by
  subst ha
  refine ⟨fun k hk => ?_, fun k hk => ?_, (hg.alloc _ _).alloc _ _, by simp⟩
  · rw [World.cell?_alloc_lt _ _ _ (by simp), World.cell?_alloc_new]; exact cells_at l k hk
  · have e : v.heap.size + 1 = (v.alloc (.cells ((l.map (Value.int .i64)).toArray) t)).heap.size := by simp
    rw [e, World.cell?_alloc_new]; exact cells_at l k hk

theorem gen {P : Program} {c : Code} {Q : Exit → Act → World → Prop} {a : Act} {w : World} (R : World → Prop) (h : R w) (k : ∀ w', R w' → c.wp P Q a w') : c.wp P Q a w := k w h

def big : Array Value := (all.map (Value.int .i64)).toArray
theorem wpList_big {ops : Array Oper} {rest : List Oper} {o : Oper} {a : Act} {Q : Exit → Act → World → Prop} (w : World) (d : Nat) (_hd : o.dst = some d) (hgd : o.guard = none)
    (h : (execOp a.eval o).run Try.prog w = .ok (.value (.slice (some ⟨w.heap.size, 0, none⟩) 112 112)) (w.alloc (.cells big 3)))
    (k : wpList Try.prog ops Q rest (a.put o.dst (.slice (some ⟨w.heap.size, 0, none⟩) 112 112)) (w.alloc (.cells big 3))) : wpList Try.prog ops Q (o :: rest) a w :=
  wpList_plain hgd fun _ hK => by unfold Oper.wp; rw [h]; exact hK _ _ k

set_option maxRecDepth 100000 in
set_option maxHeartbeats 1000000 in
theorem walk  (w : World) :
    Calls Try.prog 3 #[] w fun e w' => e = .returned (.bool true) ∧ Grown w w' := by
  go_enter Try.func3, Try.ntmps3
  go_wp2
  refine gen (fun w' => Two w w' w.heap.size 26 els) (two_new w w els 3 (Grown.refl _) _ rfl) ?_
  intro v ⟨hc1, hc2, hg, hz⟩
  go_loopw [3] (fun i wr => ∃ k : Nat, k ≤ 26 ∧ i = .int .i64 k ∧ ∃ n, wr = v.drewN n) (fun i _ => 26 - (intOf i).toNat)
  case atStart => exact ⟨0, by omega, rfl, 0, rfl⟩
  case round =>
    obtain ⟨k, hk, rfl, n, rfl⟩ := hrel
    by_cases hlt : k < 26
    · have h1 := hc1 k hlt
      have h2 := hc2 k hlt
      clear hc1 hc2
      go_wp2
      go_quiet (fail)
      go_wp2
      go_roundw
      case rel => exact ⟨k + 1, by omega, by go_num, n + _, rfl⟩
      case measure => simp [intOf]; omega
    · obtain rfl : k = 26 := by omega
      clear hc1 hc2 hlt
      have hg' : Grown w (v.drewN n) := hg
      have hz' : (v.drewN n).heap.size = w.heap.size + 2 := hz
      generalize v.drewN n = v at *
      go_wp2_with (first | (refine wpList_big _ 54 rfl rfl (by kernel_rfl) ?_) | (refine wpList_big _ 55 rfl rfl (by kernel_rfl) ?_) | go_in)
      refine gen (fun w' => Two w w' (w.heap.size + 2) 112 all) (by have h := two_new w v all 3 hg' _ rfl; rw [hz'] at h; exact h) ?_
      intro y ⟨hc1, hc2, hg2, hz2⟩
      go_loopw [6] (fun i wr => ∃ k : Nat, k ≤ 112 ∧ i = .int .i64 k ∧ ∃ n, wr = y.drewN n) (fun i _ => 112 - (intOf i).toNat)
      case atStart => exact ⟨0, by omega, rfl, 0, rfl⟩
      case round =>
        obtain ⟨k, hk, rfl, n, rfl⟩ := hrel
        by_cases hlt : k < 112
        · have h1 := hc1 k hlt
          have h2 := hc2 k hlt
          clear hc1 hc2
          go_wp2
          go_quiet (fail)
          go_wp2
          go_roundw
          case rel => exact ⟨k + 1, by omega, by go_num, n + _, rfl⟩
          case measure => simp [intOf]; omega
        · obtain rfl : k = 112 := by omega
          clear hc1 hc2 hlt
          go_wp2
          go_ret
          exact ⟨rfl, hg2⟩

/-! ### THE ROW's STEP: WRITTEN OUT: LEAVE IT -/
set_option maxRecDepth 100000 in
theorem lifted (os : Os) (started : os.Started) (H : Type) (enc : TypeId × Value → H) :
    ReturnsInHanded {} Try.checked os 3 .any (Rows.namesSpec.pre6 enc Try.prog Try.f3 Rows.namesRow.domain false) (Rows.namesSpec.post enc Try.prog Try.f3 false true false false) := by
  refine returnsInHanded_of_change (C := Try.checked) own started (by kernel_rfl) Try.func3
    (ChangeSpec.witness6 (enc := enc) (C := Try.checked) false ⟨#[], #[], []⟩ 8 (by kernel_rfl) (by kernel_rfl) (by kernel_rfl) (by kernel_rfl)) ?_
  intro W base args ds gs before hval0 hW hcnd _
  have hval : ∀ (j : Nat) t v, Try.f3.params[j]? = some t → args[j]? = some v → Value.okWide Try.prog W .any base t v := hval0
  have hW' := hW
  obtain ⟨p, q, hA0, hV, rfl, hfz, hnd⟩ := hW
  have hA : DataW.TrodAll enc Try.prog W 0 (fun _ => true) true Try.f3.params.toList args.toList ds p := hA0
  rw [Try.params3] at hA hval
  obtain ⟨rfl, rfl, rfl⟩ := trodAll_none hA
  obtain ⟨rfl, rfl⟩ := trodVars_none hV
  clear hA0 hval0
  simp only [List.append_nil] at hW'
  refine (walk  W).mono fun e W' ⟨he, hg⟩ => ?_
  subst he
  exact ⟨_, rfl, post_of_same (pa := []) (pv := []) hW' (fun _ _ _ => (trodAll_cons_mk (shut_bool Try.underlying4 _) trodAll_mk0)) (fun sp _ => rfl) (fun _ _ => rfl) rfl
    (hg.frame _) hg.2.1 (ok_one (by kernel_rfl) rfl (okWide_bool_mk Try.underlying4 _))⟩

theorem over : Rows.namesRow.holds Try.pinned (OpenSpec.ofChange Rows.namesSpec) :=
  OpenClaim.holds_of_wide 3 Try.f3 rfl rfl rfl rfl rfl rfl rfl ⟨rfl, rfl, rfl, rfl, rfl⟩ rfl rfl rfl rfl rfl (by kernel_rfl) Try.func3 (by kernel_rfl)
    (of_decide_eq_true (by kernel_rfl)) (by unfold Func.isWrapper; first | (rw [if_pos (by decide +kernel)]; kernel_rfl) | (rw [if_neg (by decide +kernel)]; exact ⟨rfl, rfl⟩))
    (fun os started H enc _ => lifted os started H enc)

/-- ████ THE STATEMENT ████ -/
theorem proved : Rows.NamesSaid :=
  over
#print axioms proved
end Go.Proofs.Ythhacpfgcaplcaa.names
