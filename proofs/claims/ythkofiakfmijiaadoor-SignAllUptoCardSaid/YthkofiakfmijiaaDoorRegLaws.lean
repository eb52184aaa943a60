/-
  Single operations in a region that draws its order: new cells, appends, loads, stores; what keeps what. Conditions: none.
-/
import Derived.Test.YthkofiakfmijiaaDoorRegInv
import Derived.BigFrame
namespace Go.Proofs.YthkofiakfmijiaaDoor
open Go.RowKit
set_option linter.unusedVariables false

section
variable {P : Program} {o : Oper} {a : Act} {w : World} {K : Act → World → Prop} {Q : Exit → Act → World → Prop}
theorem wp_alloc_run {T : TypeId} {v : Value} {w' : World} (ho : o.op = .alloc T) (hr : (Instr.alloc T true (.tuple #[])).run P w = .ok v w') (hk : K (a.put o.dst v) w') : o.wp P a w K Q := by
  unfold Oper.wp execOp
  simp only [ho, Sem.run_bind, hr, Result.andThen_ok, Sem.run_pure]
  exact hk
theorem wp_build1_run {T : TypeId} {x : Operand} {u v : Value} {w' : World} (ho : o.op = .buildSlice T 1 #[(0, x)]) (hx : a.eval x = u) (hr : (Instr.buildSlice T 1 #[(0, u)]).run P w = .ok v w') (hk : K (a.put o.dst v) w') : o.wp P a w K Q := by
  unfold Oper.wp execOp
  have e : (#[((0 : Nat), x)].map fun (i, x) => (i, a.eval x)) = #[(0, u)] := by simp [hx]
  simp only [ho, e, Sem.run_bind, hr, Result.andThen_ok, Sem.run_pure]
  exact hk
theorem wp_load1 {T : TypeId} {x : Operand} {p : Addr} {v : Value} (ho : o.op = .load T x) (hx : a.eval x = .pointer (some p)) (hr : (loadVar T p).run P w = .ok v w) (hk : K (a.put o.dst v) w) : o.wp P a w K Q := by
  unfold Oper.wp execOp
  simp only [ho, hx, Instr.loadAt, Instr.sureAddr, Sem.run_bind, Sem.run_pure, Result.andThen_ok, hr]
  exact hk
theorem wp_field {T : TypeId} {x : Operand} {j : Nat} {u v : Value} (ho : o.op = .fieldAddr T x j) (hx : a.eval x = u) (hr : (Instr.fieldAt T u j).run P w = .ok v w) (hk : K (a.put o.dst v) w) : o.wp P a w K Q := by
  unfold Oper.wp execOp
  simp only [ho, hx, Sem.run_bind, hr, Result.andThen_ok, Sem.run_pure]
  exact hk
end
theorem grown_alloc (w : World) (o : Obj) : w.grownBy (w.alloc o) none :=
  ⟨rfl, rfl, rfl, by simp, fun k hk _ => Below.heap_alloc w o k hk⟩
theorem grown_row (w : World) (g : Nat) (cs : Array Value) : w.grownBy (w.setRow g cs) (some g) :=
  ⟨rfl, rfl, rfl, by simp, fun k hk hne => setRow_other w g k cs (fun e => hne (by rw [e]))⟩
theorem run_alloc_place (w : World) : (Instr.alloc 27 true (.tuple #[])).run Tryd.prog w = .ok (.pointer (some ⟨w.heap.size, 0, none⟩)) (w.alloc (.cells #[.string ⟨#[]⟩, .slice none 0 0] 27)) := by kernel_rfl
theorem run_build_int (w : World) (k : Int) : (Instr.buildSlice 25 1 #[(0, .int .i64 k)]).run Tryd.prog w = .ok (.slice (some ⟨w.heap.size, 0, none⟩) 1 1) (w.alloc (.cells #[.int .i64 k] 3)) := by kernel_rfl
theorem run_load_string {w : World} {p : Addr} {f : ByteArray} (h : w.cell? p = some (.string f)) : (loadVar 9 p).run Tryd.prog w = .ok (.string f) w := by
  have hi : (Tryd.prog.info? 9).map (·.size) = some 1 := by kernel_rfl
  go_simp
theorem run_load_ints {w : World} {p : Addr} {A : Option Addr} {n c : Nat} (h : w.cell? p = some (.slice A n c)) : (loadVar 25 p).run Tryd.prog w = .ok (.slice A n c) w := by
  go_simp
theorem run_field0 (w : World) (b : Nat) : (Instr.fieldAt 27 (.pointer (some ⟨b, 0, none⟩)) 0).run Tryd.prog w = .ok (.pointer (some ⟨b, 0, none⟩)) w := by
  go_simp
theorem run_field1 (w : World) (b : Nat) : (Instr.fieldAt 27 (.pointer (some ⟨b, 0, none⟩)) 1).run Tryd.prog w = .ok (.pointer (some ⟨b, 1, none⟩)) w := by
  go_simp

theorem info_of {T : TypeId} {z : Value} {n b : Nat} (h : (Tryd.prog.info? T).map (fun i => (i.zero, i.size, i.bytes)) = some (some z, n, b)) : ∃ i, Tryd.prog.info? T = some i ∧ i.zero = some z ∧ i.size = n ∧ i.bytes = b := by
  cases hh : Tryd.prog.info? T with
  | none => rw [hh] at h; cases h
  | some i =>
    rw [hh] at h
    simp only [Option.map_some, Option.some.injEq, Prod.mk.injEq] at h
    exact ⟨i, rfl, h.1, h.2.1, h.2.2⟩
/-- 'append([]int(nil), xs...)': a copy of the call's own; nil where there is nothing. -/
theorem wp_app_copy {o : Oper} {a : Act} {w : World} {K : Act → World → Prop} {Q : Exit → Act → World → Prop} (s x : Operand) (ho : o.op = .call { callee := .builtin .append, args := #[s, x], argTypes := #[25, 25] })
    {A : Option Addr} {l : List Int} {c B B0 : Nat} (hs : a.eval s = .slice none 0 0) (hx : a.eval x = .slice A l.length c) (hA : A = none → l = [] ∧ c = 0) (hR : RdI w B A l) (hB : B0 ≤ w.heap.size) (hl : l.length * 8 ≤ 140737488355328)
    (h : ∀ A1 c1 w', w'.ownsRow B0 3 1 (.slice A1 l.length c1) l.length (l.map vI) → w.grownBy w' none → K (a.put o.dst (.slice A1 l.length c1)) w') : o.wp Tryd.prog a w K Q := by
  obtain ⟨i, hi, hz, hsz, hby⟩ := info_of infI
  cases A with
  | none =>
    obtain ⟨rfl, rfl⟩ := hA rfl
    have hrun := run_append_owned_none (P := Tryd.prog) (w := w) B0 25 o.type 3 i 1 Tryd.underlying25 hi (.slice none 0 0) 0 [] (World.ownsRow_nil _ _ _ _)
    unfold Oper.wp
    simp only [List.length_nil] at hx
    simp [execOp, ho, resolve, invoke, builtin, hs, hx, hrun, Result.andThen]
    exact h none 0 w (World.ownsRow_nil _ _ _ _) ⟨rfl, rfl, rfl, Nat.le_refl _, fun _ _ _ => rfl⟩
  | some ad =>
    have hn : ∀ (j : Nat) (u : Value), (l.map vI)[j]? = some u → w.cell? (ad.add j) = some u := fun j u hj => by
      obtain ⟨ad', e, _, hc⟩ := hR (by
        rcases Nat.eq_zero_or_pos (l.map vI).length with h0 | h0
        · rw [List.length_eq_zero_iff.1 h0] at hj; cases hj
        · exact h0)
      cases e
      exact hc j u hj
    refine wp_append_own w s x 25 ho B0 3 i (.int .i64 0) 1 8 Tryd.underlying25 hi hz hsz hby rfl (by decide) (.slice none 0 0) 0 [] hs (World.ownsRow_nil _ _ _ _) ad l.length c (l.map vI) hx (by simp) hn (fun u hu => ?_) (by unfold maxLen; omega) (by omega) hB ?_
    · obtain ⟨m, _, rfl⟩ := List.mem_map.1 hu; rfl
    · intro v' w' hown hgr _
      rw [Nat.zero_add, List.nil_append] at hown
      rcases hown.2 with ⟨rfl, h0⟩ | ⟨g, cap, cur, rfl, _⟩
      · rw [h0] at hown
        have hl0 : l = [] := List.length_eq_zero_iff.1 h0
        subst hl0
        exact h none 0 w' hown hgr
      · exact h _ _ w' hown hgr
/-- One number, appended to a row of the call's own. -/
theorem wp_app_one {o : Oper} {a : Act} {w : World} {K : Act → World → Prop} {Q : Exit → Act → World → Prop} (s x : Operand) (ho : o.op = .call { callee := .builtin .append, args := #[s, x], argTypes := #[25, 25] })
    {A1 : Option Addr} {n c1 b B0 : Nat} {k : Int} {xs : List Value} (hs : a.eval s = .slice A1 n c1) (hown : w.ownsRow B0 3 1 (.slice A1 n c1) n xs) (hx : a.eval x = .slice (some ⟨b, 0, none⟩) 1 1) (hc : w.cell? ⟨b, 0, none⟩ = some (.int .i64 k)) (hB : B0 ≤ w.heap.size) (hl : (n + 1) * 8 ≤ 140737488355328)
    (h : ∀ g cap w', w'.ownsRow B0 3 1 (.slice (some ⟨g, 0, none⟩) (n + 1) cap) (n + 1) (xs ++ [vI k]) → w.grownBy w' (Value.slice A1 n c1).ownBlock → K (a.put o.dst (.slice (some ⟨g, 0, none⟩) (n + 1) cap)) w') : o.wp Tryd.prog a w K Q := by
  obtain ⟨i, hi, hz, hsz, hby⟩ := info_of infI
  refine wp_append_lies w s x 25 ho B0 3 i (.int .i64 0) 1 8 Tryd.underlying25 hi hz hsz hby rfl (by decide) _ n xs hs hown ⟨b, 0, none⟩ 1 1 [vI k] hx rfl (fun j u hj => ?_) (fun u hu => ?_) (by decide) (by unfold maxLen; omega) hl hB _ rfl ?_
  · match j, hj with
    | 0, hj => simp at hj; subst hj; simpa [Addr.add, vI] using hc
  · simp at hu; subst hu; rfl
  · intro g cap w' h1 h2 _ _
    exact h g cap w' h1 h2
theorem built_place (f : ByteArray) (v : Value) (A : Option Addr) (n c : Nat) (h : v = .slice A n c) : Tryd.prog.built 27 [(0, .string f), (1, v)] = some #[.string f, v] := by subst h; kernel_rfl
end Go.Proofs.YthkofiakfmijiaaDoor
