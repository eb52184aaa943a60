/-
  A slice of one-cell elements that reads as a list, nil let in; what keeps it. Conditions: none.
-/
import Derived.Test.YthkofiakfmijiaaDoorBase
import Derived.Laws.OwnMore
import Derived.Deep.AppendLies
import Derived.Deep.Draws
import Derived.Lib.Tables
import Derived.Lib.LaidTab
import Derived.Lib.ItoaNum
import Derived.WalkSmall
import Derived.Test.YthkofiakfmijiaaDoorProg
import Derived.KernelRfl
namespace Go.Proofs.YthkofiakfmijiaaDoor
open Go.RowKit

theorem blk_add (a : Addr) (n : Nat) : (a.add n).block = a.block := by unfold Addr.add; split <;> rfl
/-- The slice value with address A holds the one-cell elements xs, below block B. -/
def Rd (w : World) (B : Nat) (A : Option Addr) (xs : List Value) : Prop :=
  0 < xs.length → ∃ ad, A = some ad ∧ ad.block < B ∧ ∀ j u, xs[j]? = some u → w.cell? (ad.add j) = some u
section
variable {w w' : World} {B B' : Nat} {A : Option Addr} {xs : List Value}
theorem Rd.nil : Rd w B A [] := fun h => absurd h (by simp)
theorem Rd.at_ {k : Nat} (h : Rd w B A xs) (hk : k < xs.length) : ∃ ad, A = some ad ∧ ad.block < B ∧ w.cell? (ad.add k) = some (xs[k]'hk) := by
  obtain ⟨ad, e, hb, hc⟩ := h (by omega)
  exact ⟨ad, e, hb, hc k _ (List.getElem?_eq_getElem hk)⟩
theorem Rd.keep (h : Rd w B A xs) (hk : ∀ p : Addr, p.block < B → w'.cell? p = w.cell? p) : Rd w' B A xs := fun hn => by
  obtain ⟨ad, e, hb, hc⟩ := h hn
  exact ⟨ad, e, hb, fun j u hu => (hk _ (by rw [blk_add]; exact hb)).trans (hc j u hu)⟩
theorem Rd.more (h : Rd w B A xs) (hB : B ≤ B') : Rd w B' A xs := fun hn => by
  obtain ⟨ad, e, hb, hc⟩ := h hn
  exact ⟨ad, e, by omega, hc⟩
theorem Rd.below (h : Rd w B A xs) (hb : Below B w w') : Rd w' B A xs := h.keep fun _ hp => hb.cell hp
theorem Rd.next (h : Rd w w.heap.size A xs) (hb : Below w.heap.size w w') : Rd w' w'.heap.size A xs := (h.below hb).more hb.size
theorem Rd.of_own {base : Nat} {e : TypeId} {n c : Nat} (h : w.ownsRow base e 1 (.slice A n c) n xs) : Rd w w.heap.size A xs := fun hn => by
  have hl : xs.length = n * 1 := h.1
  obtain ⟨g, cap, hv, _, hlt⟩ := h.form (by omega)
  have hA : A = some ⟨g, 0, none⟩ := by injection hv
  subst hA
  exact ⟨⟨g, 0, none⟩, rfl, hlt, h.cells (g := g) rfl⟩
theorem Rd.lit {cs : Array Value} {T : TypeId} (h : w.heap[B]? = some (.cells cs T (0, 0))) (hl : ∀ (j : Nat) (u : Value), xs[j]? = some u → cs[j]? = some u) : Rd w w.heap.size (some ⟨B, 0, none⟩) xs := fun _ => by
  refine ⟨_, rfl, ?_, fun j u hu => ?_⟩
  · rcases Nat.lt_or_ge B w.heap.size with hlt | hge
    · exact hlt
    · rw [Array.getElem?_eq_none hge] at h; cases h
  · have := cell_of_row w B j cs T (0, 0) h
    rw [show (⟨B, 0, none⟩ : Addr).add j = ⟨B, j, none⟩ by unfold Addr.add; split <;> simp_all]
    rw [this]; exact hl j u hu
end
/-- Numbers, texts. -/
def vI (n : Int) : Value := .int .i64 n
def vS (s : ByteArray) : Value := .string s
def RdI (w : World) (B : Nat) (A : Option Addr) (l : List Int) : Prop := Rd w B A (l.map vI)
theorem RdI.at_ {w : World} {B k : Nat} {A : Option Addr} {l : List Int} (h : RdI w B A l) (hk : k < l.length) : ∃ ad, A = some ad ∧ ad.block < B ∧ w.cell? (ad.add k) = some (.int .i64 (l[k]'hk)) := by
  obtain ⟨ad, e, hb, hc⟩ := Rd.at_ (k := k) h (by simpa using hk)
  exact ⟨ad, e, hb, by rw [hc]; simp [vI]⟩
/-- The memory that package sign's functions ask for. -/
structure Sg (w : World) : Prop where
  tab : Lib.TabIs Tryd.prog w "internal/strconv.uint64pow10" .u64 Lib.pow10Tab
  mx : ∃ m : Int, w.cell? ⟨0, 0, none⟩ = some (.int .i64 m)
  sz : 2 ≤ w.heap.size
theorem Sg.below {w w' : World} (h : Sg w) (hb : Below w.heap.size w w') : Sg w' := by
  have hs := h.sz
  refine ⟨var?_below (n := "internal/strconv.uint64pow10") (g := 1) hb (by kernel_rfl) (by omega) h.tab, ?_, Nat.le_trans h.sz hb.size⟩
  obtain ⟨m, hm⟩ := h.mx
  exact ⟨m, (hb.cell (p := ⟨0, 0, none⟩) (by simp; omega)).trans hm⟩

/-- One element, laid in a literal's block, appended to a row of the call's own. -/
theorem wp_app1 {P : Program} {ops : Array Oper} {rest : List Oper} {o : Oper} {a : Act} {Q : Exit → Act → World → Prop} (W : World) (hgd : o.guard = none) (s x : Operand) (t : TypeId)
    (ho : o.op = .call { callee := .builtin .append, args := #[s, x], argTypes := #[t, t] })
    (base : Nat) (e : TypeId) (z : Value) (bytes : Nat) (ht : P.underlying t = some (.slice e)) (hi : (P.info? e).map (fun i => (i.zero, i.size, i.bytes)) = some (some z, 1, bytes)) (hzs : z.cells.size = 1)
    (A : Option Addr) (n c : Nat) (xs : List Value) (hs : a.eval s = .slice A n c) (hown : W.ownsRow base e 1 (.slice A n c) n xs) (u : Value) (h1 : u.oneCell' = true)
    (hx : a.eval x = .slice (some ⟨W.heap.size, 0, none⟩) 1 1) (h63 : n + 1 ≤ maxLen) (hbytes : (n + 1) * bytes ≤ 140737488355328) (hbase : base ≤ W.heap.size)
    (h : ∀ g cap w', w'.ownsRow base e 1 (.slice (some ⟨g, 0, none⟩) (n + 1) cap) (n + 1) (xs ++ [u]) → Below base W w' → W.heap.size < w'.heap.size → g < w'.heap.size → wpList P ops Q rest (a.put o.dst (.slice (some ⟨g, 0, none⟩) (n + 1) cap)) w') :
    wpList P ops Q (o :: rest) a (W.alloc (.cells #[u] e)) := by
  obtain ⟨i, hi1⟩ : ∃ i, P.info? e = some i := by
    cases hh : P.info? e with
    | none => rw [hh] at hi; cases hi
    | some i => exact ⟨i, rfl⟩
  rw [hi1] at hi
  simp only [Option.map_some, Option.some.injEq, Prod.mk.injEq] at hi
  obtain ⟨hz, hsz, hby⟩ := hi
  refine wpList_append_lies _ hgd s x t ho base e i z 1 bytes ht hi1 hz hsz hby hzs (by decide) _ n xs hs (hown.alloc _) ⟨W.heap.size, 0, none⟩ 1 1 [u] hx rfl (fun j v hj => one_new W u e j v hj) (fun v hv => by simp at hv; rw [hv]; exact h1) (by decide) h63 hbytes (by simp; omega) _ rfl ?_
  intro g cap w' hown' hgr _ hlt
  have hbb : Below base W w' := ((Below.refl base W).alloc hbase _).grown hgr (by simp; omega) (fun k hk => (hown.lt k hk).1)
  refine h g cap w' hown' hbb ?_ hlt
  have := hgr.size
  rw [size_alloc] at this
  omega
theorem infI : (Tryd.prog.info? 3).map (fun i => (i.zero, i.size, i.bytes)) = some (some (.int .i64 0), 1, 8) := by kernel_rfl
theorem infS : (Tryd.prog.info? 9).map (fun i => (i.zero, i.size, i.bytes)) = some (some (.string ByteArray.empty), 1, 16) := by kernel_rfl
end Go.Proofs.YthkofiakfmijiaaDoor
