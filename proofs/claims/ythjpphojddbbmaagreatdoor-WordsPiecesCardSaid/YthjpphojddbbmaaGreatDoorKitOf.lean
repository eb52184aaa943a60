/-
  kit.New on rows that are checked by computing. Conditions: none.
-/
import Derived.Test.YthjpphojddbbmaaGreatDoorRows1
namespace Go.Proofs.YthjpphojddbbmaaGreatDoor
open Go.RowKit
set_option linter.unusedVariables false

def rowB (name : ByteArray) (r : RowD) : Bool :=
  (kindV r.kind).2.2 && ((kindV r.kind).1 == name) && decide (r.kind.size ≤ 1000) && decide (0 ≤ r.min) && decide (r.min ≤ 1023) && (decide (r.max = -1) || (decide (r.min ≤ r.max) && decide (r.max ≤ 1023))) && decide (0 ≤ r.text) && decide (r.text ≤ 4) && (!decide (r.text = 3) || !decide (r.min = 0)) && decide (0 < r.abil.length) && decide (r.abil.length ≤ 1000) && risingF r.abil (-1) && (!Lib.containsS r.abil totalName || Lib.containsS r.abil pureName)
theorem rowB_ok {name : ByteArray} {r : RowD} (h : rowB name r = true) : r.ok ∧ (kindV r.kind).1 = name := by
  simp only [rowB, Bool.and_eq_true, Bool.or_eq_true, Bool.not_eq_true', decide_eq_true_eq, decide_eq_false_iff_not] at h
  obtain ⟨⟨⟨⟨⟨⟨⟨⟨⟨⟨⟨⟨h1, h2⟩, h3⟩, h4⟩, h5⟩, h6⟩, h7⟩, h8⟩, h9⟩, h10⟩, h11⟩, h12⟩, h13⟩ := h
  exact ⟨⟨h1, by omega, h4, h5, h6, h7, h8, fun e => by rcases h9 with h | h; exact absurd e h; exact h, ⟨h10, by omega⟩, h12, fun e => by rcases h13 with h | h; rw [h] at e; cases e; exact h⟩, (MapKept.bytes_beq _ _).mp h2⟩
def apartB : List ByteArray → Bool
  | [] => true
  | a :: l => l.all (fun b => !(a == b)) && apartB l
theorem apart_ne : ∀ (l : List ByteArray), apartB l = true → ∀ (k : Nat) (hk : k < l.length) (m : Nat) (hm : m < k), l[m]'(by omega) ≠ l[k] := by
  intro l
  induction l with
  | nil => intro _ k hk; simp at hk
  | cons a l ih =>
    intro h k hk m hm
    simp only [apartB, Bool.and_eq_true, List.all_eq_true, Bool.not_eq_true'] at h
    cases k with
    | zero => omega
    | succ k =>
      have hk' : k < l.length := by simpa using hk
      cases m with
      | zero =>
        simp only [List.getElem_cons_zero, List.getElem_cons_succ]
        intro e
        have := h.1 _ (List.getElem_mem hk')
        rw [e, bytes_same] at this
        cases this
      | succ m =>
        simp only [List.getElem_cons_succ]
        exact ih h.2 k hk' m (by omega)
def kitB (name : ByteArray) (rs : List RowD) : Bool := wordB name && decide (name.size ≤ 1000) && decide (0 < rs.length) && decide (rs.length ≤ 1000000) && rs.all (rowB name) && apartB (rs.map RowD.kind)
theorem kit_new_of {name : ByteArray} {rs : List RowD} (h : kitB name rs = true) (f : FuncId) (ts : List RowAt) (hts : ts.map RowAt.row = rs) (A : Option Addr) (c : Nat) (w : World) (hA : RowsIn w (· < w.heap.size) ts A) :
    Calls Tryz.prog 36 #[.string name, .slice A ts.length c, .func (.func f) #[] #[]] w (NewPost name (.func (.func f) #[] #[]) rs w) := by
  subst hts
  simp only [kitB, Bool.and_eq_true, decide_eq_true_eq, List.all_eq_true, List.length_map] at h
  obtain ⟨⟨⟨⟨⟨h1, h2⟩, h3⟩, h4⟩, h5⟩, h6⟩ := h
  refine kit_new name f ts A c w h1 (by omega) h3 h4 (fun k hk => ?_) hA
  have hr := rowB_ok (h5 _ (List.mem_map.mpr ⟨_, List.getElem_mem hk, rfl⟩))
  refine ⟨hr.1, hr.2, fun m hm => ?_⟩
  have := apart_ne _ h6 k (by simpa using hk) m hm
  simpa using this
theorem RowsIn.keep {w w' : World} {S S' : Nat → Prop} {ts : List RowAt} {A : Option Addr} (h : RowsIn w S ts A) (hk : ∀ b o, S b → w'.cell? ⟨b, o, none⟩ = w.cell? ⟨b, o, none⟩) (hS : ∀ b, S b → S' b) : RowsIn w' S' ts A := fun hl => by
  obtain ⟨b, o, e, hs, hc⟩ := h hl
  exact ⟨b, o, e, hS b hs, fun k hh => ⟨fun j hj => (hk b _ hs).trans ((hc k hh).1 j hj), (hc k hh).2.keep hk hS⟩⟩
/-- What a kit's maker gives: a kit's place, what its memory is like. -/
def KitPost (name : ByteArray) (f : FuncId) (rs : List RowD) (w : World) (e : Ending) (w' : World) : Prop :=
  ∃ M v ts, w.heap.size ≤ M ∧ e = .returned (.pointer (some ⟨M + 1, 0, none⟩)) ∧ KitIn w' M (M + 1) name (.func (.func f) #[] #[]) v ts ∧ ts.map RowAt.row = rs ∧ Below w.heap.size w w'
end Go.Proofs.YthjpphojddbbmaaGreatDoor
