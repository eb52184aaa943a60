/-
  espalierlaw8's work: what an operation on numbers comes to: walks. Conditions: the numbers lie in memory.
-/
import Derived.Test.YtcdjnkeomaidaaaNumWorkC
import Derived.Test.YtcdjnkeomaidaaaRows1
import Derived.Laws.ResultCell
namespace Go.Proofs.Ytcdjnkeomaidaaa
open Go.RowKit
set_option linter.unusedVariables false

def plInt (n : Int) : Pl := .mk 3 n ⟨#[]⟩ []
def intCells (n : Int) : List Value := [.int .i64 3, .int .i64 n, .string ⟨#[]⟩, .slice none 0 0]
theorem plInt_ok (n : Int) : (plInt n).ok = true := by
  unfold Pl.ok plInt
  unfold Pl.right Pl.toVl
  simp [Vl.measure]
  rw [if_pos (show (⟨#[]⟩ : ByteArray) = ByteArray.empty from rfl)]
theorem plInts_ok (ns : List Int) : (ns.map plInt).all Pl.ok = true := by simp [plInt_ok]
theorem plInts_val (ns : List Int) : Pls.toVl (ns.map plInt) = ns.map Vl.int := by
  induction ns with
  | nil => simp [Pls.toVl]
  | cons a l ih => simp only [List.map_cons, Pls.toVl, ih]; unfold plInt Pl.toVl; simp
theorem ints_lie {w : World} {B b : Nat} (hb : b < B) : ∀ (ns : List Int) (o : Nat), (∀ n ∈ ns, rng n = true) → (∀ k (h : k < ns.length) j, j < 4 → w.cell? ⟨b, o + k * 4 + j, none⟩ = (intCells ns[k])[j]?) → Pls.lies w B (ns.map plInt) (some ⟨b, o, none⟩) := by
  intro ns
  induction ns with
  | nil => intro o _ _; simp [Pls.lies]
  | cons a l ih =>
    intro o hr hc
    rw [List.map_cons, Pls.lies]
    refine ⟨b, o, rfl, ?_, ih (o + 4) (fun n hn => hr n (by simp [hn])) (fun k hk j hj => ?_)⟩
    · unfold plInt Pl.lies
      have h0 := hc 0 (by simp) 0 (by omega)
      have h1 := hc 0 (by simp) 1 (by omega)
      have h2 := hc 0 (by simp) 2 (by omega)
      have h3 := hc 0 (by simp) 3 (by omega)
      simp [intCells] at h0 h1 h2 h3
      exact ⟨hb, h0, h1, h2, by decide, hr a (by simp), by decide, by simp, none, 0, h3, by unfold Pls.lies; trivial⟩
    · have := hc (k + 1) (by simpa using hk) j hj
      rw [show o + 4 + k * 4 + j = o + (k + 1) * 4 + j by omega]
      simpa using this
theorem flatI_length (l : List Int) : (l.flatMap intCells).length = l.length * 4 := by
  induction l with
  | nil => rfl
  | cons a l ih => simp only [List.flatMap_cons, List.length_append, ih, List.length_cons, intCells]; simp; omega
theorem flatI_at (l : List Int) : ∀ (k : Nat) (hk : k < l.length) (j : Nat), j < 4 → (l.flatMap intCells)[k * 4 + j]? = (intCells l[k])[j]? := by
  induction l with
  | nil => intro k hk; simp at hk
  | cons a l ih =>
    intro k hk j hj
    cases k with
    | zero =>
      simp only [List.flatMap_cons, List.getElem_cons_zero, Nat.zero_mul, Nat.zero_add]
      rw [List.getElem?_append_left (by simpa [intCells] using hj)]
    | succ k =>
      simp only [List.flatMap_cons, List.getElem_cons_succ]
      rw [List.getElem?_append_right (by simp [intCells]; omega)]
      rw [show (k + 1) * 4 + j - (intCells a).length = k * 4 + j by simp [intCells]; omega]
      exact ih k (by simpa using hk) j hj
theorem own_ints {w : World} {base : Nat} {v : Value} {ns : List Int} (h : w.ownsRow base 38 4 v ns.length (ns.flatMap intCells)) (hr : ∀ n ∈ ns, rng n = true) : ∃ A c, v = .slice A ns.length c ∧ Pls.lies w w.heap.size (ns.map plInt) A := by
  rcases h.2 with ⟨e, h2⟩ | ⟨g, cap, cur, e, _⟩
  · have : ns = [] := List.eq_nil_of_length_eq_zero h2
    subst this
    exact ⟨none, 0, e, by simp [Pls.lies]⟩
  · subst e
    refine ⟨_, _, rfl, ints_lie (h.lt g rfl).2 ns 0 hr (fun k hk j hj => ?_)⟩
    rw [Nat.zero_add, h.cellAt (k * 4 + j) (by omega), flatI_at ns k hk j hj]

theorem law_whole (n : Int) (w : World) : Calls Try.prog 12 #[.int .i64 n] w (Bel (.agg #[.int .i64 3, .int .i64 n, .string ⟨#[]⟩, .slice none 0 0]) w) := by
  have hb2 : Hid (Below w.heap.size w (w.alloc (.cells #[.int .i64 3, .int .i64 n, .string ⟨#[]⟩, .slice none 0 0] 38))) := (Below.refl _ _).alloc (Nat.le_refl _) _
  go_enter Try.func12, Try.ntmps12
  go_wp2
  have hres := run_loadVar_row (P := Try.prog) _ _ _ 38 _ _ _ (heap_alloc_new w (.cells #[.int .i64 3, .int .i64 n, .string ⟨#[]⟩, .slice none 0 0] 38)) Try.underlying38 rfl (by kernel_rfl)
  refine bodyPost_ret (fn := Try.f12) (v := .agg #[.int .i64 3, .int .i64 n, .string ⟨#[]⟩, .slice none 0 0]) ?_ ?_ ?_
  · refine results_cell (p := 2) (ty := 38) (a := ⟨w.heap.size, 0, none⟩) Try.results12 ?_ ?_
    · rfl
    · exact hres
  · rfl
  · exact ⟨rfl, hb2.out⟩

theorem info_plain : (Try.prog.info? 38).map (fun i => (i.zero, i.size, i.bytes)) = some (some (.agg #[.int .i64 0, .int .i64 0, .string ⟨#[]⟩, .slice none 0 0]), 4, 56) := by kernel_rfl
/-- A number or a fault, as the law tells it. -/
def IsPair (v : Value) (r : Int × Int) : Prop := (v = withText (numV r.1) ∧ r.2 = 0) ∨ (v = withText (faultV r.2) ∧ r.1 = 0 ∧ r.2 ≠ 0)
def pairV (r : Int × Int) : Value := .tuple #[.int .i64 r.1, .int .i64 r.2]

set_option maxRecDepth 100000 in
set_option maxHeartbeats 4000000 in
theorem law_work {op : ByteArray} {cnt : Nat} {V : Int → Int → Value} (h : NumOp op cnt V) (hc : cnt = 1 ∨ cnt = 2) (ns : List Int) (hns : ns.length = cnt) (hr : ∀ n ∈ ns, rng n = true) (b o c : Nat) (w : World) (hb : b < w.heap.size)
    (hargs : ∀ k (h : k < ns.length), w.cell? ⟨b, o + k, none⟩ = some (.int .i64 ns[k])) (r : Int × Int) (hres : IsPair (doV V (ns.map Vl.int)) r) :
    Calls Try.prog 8 #[.string op, .slice (some ⟨b, o, none⟩) ns.length c] w (Bel (pairV r) w) := by
  obtain ⟨i0, hi, hz0, hz1, hz2⟩ := info_parts info_plain
  have HA := Lib.hid hargs
  have HR := Lib.hid hr
  have HH := Lib.hid h
  have HC := Lib.hid hc
  have HRES := Lib.hid hres
  have hln : ns.length ≤ 2 := by omega
  have HN := Lib.hid hns
  have hhit : ∀ v w, (Instr.typeAssert (.iface 48 v) 33 48 true).run Try.prog w = .ok (.tuple #[v, .bool true]) w := fun v w => run_assert_hit Try.underlying48 rfl v w
  have hnil : ∀ w, (Instr.typeAssert .nilIface 33 48 true).run Try.prog w = .ok (.tuple #[.int .i64 0, .bool false]) w := fun w => by kernel_rfl
  clear hargs hr h hc hns hres
  go_enter Try.func8, Try.ntmps8
  go_wp2
  go_loopw [6, 7] (fun s6 s7 wr => ∃ (k : Nat), k ≤ ns.length ∧ s7 = .int .i64 (k : Int) ∧ wr.ownsRow w.heap.size 38 4 s6 k ((ns.take k).flatMap intCells) ∧ Below w.heap.size w wr) (fun _ s7 _ => ns.length - (intOf s7).toNat)
  case atStart => exact ⟨0, Nat.zero_le _, rfl, World.ownsRow_nil _ _ _ _, Below.refl _ _⟩
  case round =>
    obtain ⟨k, hk, rfl, hown, hbel⟩ := hrel
    have HO := Lib.hid hown
    have HB := Lib.hid hbel
    have hsz := hbel.size
    clear hown hbel
    by_cases hlt : k < ns.length
    · have e0 := (HB.out.cell (p := ⟨b, o + k, none⟩) hb).trans (HA.out k hlt)
      go_wp2_with fail
      refine (law_whole ns[k] wr).mono ?_
      rintro e w2 ⟨rfl, hb2⟩
      have HB2 := Lib.hid hb2
      have hs2 := hb2.size
      clear hb2 e0
      go_wp2_with (at_builtin; refine wpList_append_lies _ rfl _ _ 36 rfl w.heap.size 38 i0 _ 4 56 Try.underlying36 hi hz0 hz1 hz2 rfl (by decide) u6 k _ rfl ((own_below HO.out HB2.out).alloc _) ⟨w2.heap.size, 0, none⟩ 1 1 (intCells ns[k]) rfl rfl (World.news_of_block (by exact heap_alloc_new w2 _)) (by intro u hu; simp only [intCells, List.mem_cons, List.not_mem_nil, or_false] at hu; rcases hu with rfl | rfl | rfl | rfl <;> rfl) (by decide) (by unfold maxLen; omega) (by omega) (by simp; omega) (w2.heap.size + 1) (by simp) ?_; intro g cap w7 hown hgrow hat hlt')
      have H1 := Lib.hid hown
      have H2 := Lib.hid (step_below HB.out hsz HB2.out hgrow HO.out (Nat.le_refl _))
      clear hown hgrow hat
      go_wp2
      go_roundw
      case rel => exact ⟨k + 1, by omega, by go_num, by have := H1.out; rw [List.take_add_one, List.flatMap_append]; simpa [hlt] using this, H2.out⟩
      case measure => simp [intOf]; omega
    · have HKE : Hid (k = ns.length) := (by omega : k = ns.length)
      have hlie : ∃ A c, u6 = .slice A k c ∧ Pls.lies wr wr.heap.size (ns.map plInt) A := by
        have := HO.out
        rw [HKE.out] at this ⊢
        rw [List.take_length] at this
        exact own_ints this HR.out
      obtain ⟨A, c1, rfl, hl⟩ := hlie
      have HW := num_work HH.out HC.out (ns.map plInt) A c1 wr (by rw [List.length_map]; omega) hl
      rw [List.length_map, ← HKE.out] at HW
      have hv : workV cnt V (ns.map plInt) = doV V (ns.map Vl.int) := by
        unfold workV
        rw [if_neg (by simp [HN.out]), if_neg (by rw [plInts_ok]; simp), plInts_val]
      rw [hv] at HW
      have HWW := Lib.hid HW
      clear HW hv hl
      obtain ⟨r1, r2⟩ := r
      rcases HRES.out with ⟨e1, e2⟩ | ⟨e1, e2, e3⟩
      · simp only at e1 e2
        rw [e1, show withText (numV r1) = .tuple #[.iface 48 (.int .i64 r1), .int .i64 0, .string ⟨#[]⟩] from rfl] at HWW
        subst e2
        clear e1
        go_wp2_with fail
        refine HWW.out.mono ?_
        rintro e w2 ⟨rfl, hb2⟩
        have H2 := Lib.hid (HB.out.trans (hb2.mono hsz))
        clear hb2
        go_wp2
        go_ret2
        exact ⟨rfl, H2.out⟩
      · simp only at e1 e2 e3
        rw [e1, show withText (faultV r2) = .tuple #[.nilIface, .int .i64 r2, .string ⟨#[]⟩] from rfl] at HWW
        subst e2
        have e4 : (r2 == 0) = false := by simpa using e3
        clear e1 e3
        go_wp2_with fail
        refine HWW.out.mono ?_
        rintro e w2 ⟨rfl, hb2⟩
        have H2 := Lib.hid (HB.out.trans (hb2.mono hsz))
        clear hb2
        go_wp2
        go_ret2
        exact ⟨rfl, H2.out⟩
end Go.Proofs.Ytcdjnkeomaidaaa
