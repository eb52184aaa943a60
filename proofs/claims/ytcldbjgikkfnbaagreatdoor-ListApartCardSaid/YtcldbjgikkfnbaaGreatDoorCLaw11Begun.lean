/-
  espalierlaw11.num, of, made, begun: walks. Conditions: none.
-/
import Derived.Test.YtcldbjgikkfnbaaGreatDoorCKitMake
import Derived.Test.YtcldbjgikkfnbaaGreatDoorCListSigns
import Derived.Test.YtcldbjgikkfnbaaGreatDoorCNodeLooks
import Derived.Test.YtcldbjgikkfnbaaGreatDoorCListKit
import Derived.Test.YtcldbjgikkfnbaaGreatDoorCListTab
import Derived.Test.YtcldbjgikkfnbaaGreatDoorCPlSameL
import Derived.Test.YtcldbjgikkfnbaaGreatDoorCPlainL
namespace Go.Proofs.YtcldbjgikkfnbaaGreatDoor
open Go.RowKit
set_option linter.unusedVariables false

theorem made11 {w : World} {M KB : Nat} {name : ByteArray} {vv : Value} {ts : List RowAt} {f : FuncId} {rs : List RowD} (h : KitIn w M KB name (.func (.func f) #[] #[]) vv ts) (hts : ts.map RowAt.row = rs) (hlen : rs.length ≤ 1000) (k : Nat) (hk : k < rs.length) (hdis : ∀ j (h : j < k), (rs[j]'(by omega)).kind ≠ rs[k].kind)
    {s : ByteArray} {T : TypeId} {B : Nat → Bool} (n : Nat) (hn : n ≤ 1000) (hm : ∀ ks : List Kd, ks.length = n → (∀ k ∈ ks, SameKid k) → MakeOk rs[k] s ks f T B) :
    Calls Tryz.prog 22 #[.pointer (some ⟨KB, 0, none⟩), .agg #[.string rs[k].kind, .int .i64 0, .string s, .slice none 0 0], .int .i64 (n : Int)] w (MadePost rs[k].kind s n T w) := by
  subst hts
  simp only [List.getElem_map] at hdis hm ⊢
  rw [List.length_map] at hk hlen
  exact law11_made h (by omega) k hk hdis n hn hm
theorem ok_list_map (ks : List Kd) (hl : ks.length = 2) (hs : ∀ k ∈ ks, SameKid k) : MakeOk listRows[8] ⟨#[120]⟩ ks 37 159 b_ListMap where
  row := (rowB_ok (name := ⟨#[108, 105, 115, 116]⟩) (by kernel_rfl)).1
  abil := by decide
  text := by kernel_rfl
  size := by decide
  many := by omega
  min_ := by rw [hl]; decide
  max_ := .inr (by rw [hl]; decide)
  call := fun args w => by kernel_rfl
  makes := mk_list_map _ ks (by omega)
  disp := disp_ListMap
  looks := fun nb => looks_ListMap _
  told := told_ListMap
  same := hs
theorem law11_num (n : Int) (w : World) : Calls Tryz.prog 13 #[.int .i64 n] w (Bel (.agg #[.int .i64 3, .int .i64 n, .string ⟨#[]⟩, .slice none 0 0]) w) := by
  have H0 := Lib.hid ((Below.refl w.heap.size w).alloc (Nat.le_refl _) (.cells #[.int .i64 3, .int .i64 n, .string ⟨#[]⟩, .slice none 0 0] 31))
  go_enter Tryz.func13, Tryz.ntmps13
  go_wp2
  exact bodyPost_ret (fn := Tryz.f13) (v := .agg #[.int .i64 3, .int .i64 n, .string ⟨#[]⟩, .slice none 0 0]) (results_cell (p := 2) (ty := 31) (a := ⟨w.heap.size, 0, none⟩) Tryz.results13 rfl (run_loadVar_row (P := Tryz.prog) _ _ _ 31 _ _ _ (heap_alloc_new w _) Tryz.underlying31 rfl (by kernel_rfl))) rfl ⟨rfl, H0.out⟩
theorem law11_of (A : Option Addr) (n c : Nat) (w : World) : Calls Tryz.prog 10 #[.slice A n c] w (Bel (.agg #[.int .i64 5, .int .i64 0, .string ⟨#[]⟩, .slice A n c]) w) := by
  have H0 := Lib.hid ((Below.refl w.heap.size w).alloc (Nat.le_refl _) (.cells #[.int .i64 5, .int .i64 0, .string ⟨#[]⟩, .slice A n c] 31))
  go_enter Tryz.func10, Tryz.ntmps10
  go_wp2
  exact bodyPost_ret (fn := Tryz.f10) (v := .agg #[.int .i64 5, .int .i64 0, .string ⟨#[]⟩, .slice A n c]) (results_cell (p := 2) (ty := 31) (a := ⟨w.heap.size, 0, none⟩) Tryz.results10 rfl (run_loadVar_row (P := Tryz.prog) _ _ _ 31 _ _ _ (heap_alloc_new w _) Tryz.underlying31 rfl (by kernel_rfl))) rfl ⟨rfl, H0.out⟩
/-- Work on one plain number, laid now. -/
def nAt (n : Int) : PlAt := ⟨nPl n, none, 0⟩
theorem lies_nums (w : World) (ns : List Int) (h : ∀ n ∈ ns, rng n = true) : Pls.lies (w.alloc (.cells ((ns.map nAt).flatMap PlAt.cells).toArray 31)) (w.heap.size + 1) ((ns.map nAt).map PlAt.p) (some ⟨w.heap.size, 0, none⟩) :=
  plits (ns.map nAt) (fun x hx => by
    obtain ⟨n, hn, rfl⟩ := List.mem_map.1 hx
    exact ⟨nPl_sane (h n hn), by unfold nAt nPl Pl.list Pls.lies; trivial⟩)
theorem count2 : lWork ln_count [nPl 2] = (0, .list [.int 0, .int 1]) := by
  have h : lRes (some 1) (lArgs1 lCount) [nPl 2] = (0, .list [.int 0, .int 1]) := by
    unfold lRes
    rw [if_pos (.inr rfl), if_pos (by rw [List.all_cons, nPl_ok]; rfl)]
    rfl
  rw [← h]
  unfold lWork
  rw [if_neg (by decide), if_neg (by decide), if_neg (by decide), if_neg (by decide), if_neg (by decide), if_neg (by decide), if_neg (by decide), if_pos rfl]
theorem at00 : lWork ln_at [.mk 5 0 ⟨#[]⟩ [], nPl 0] = (23, .unit) := by
  have h : lRes (some 2) (lArgs2 lAt) [.mk 5 0 ⟨#[]⟩ [], nPl 0] = (23, .unit) := by
    unfold lRes
    rw [if_pos (.inr rfl), if_pos (by rw [List.all_cons, List.all_cons, nPl_ok, ok_left]; rfl)]
    rfl
  rw [← h]
  unfold lWork
  rw [if_neg (by decide), if_neg (by decide), if_pos rfl]
theorem size1 : lWork ln_size [nPl 1] = (20, .unit) := by
  have h : lRes (some 1) (lArgs1 lSize) [nPl 1] = (20, .unit) := by
    unfold lRes
    rw [if_pos (.inr rfl), if_pos (by rw [List.all_cons, nPl_ok]; rfl)]
    rfl
  rw [← h]
  unfold lWork
  rw [if_neg (by decide), if_pos rfl]
set_option maxRecDepth 100000 in
set_option maxHeartbeats 8000000 in
theorem law11_begun (w : World) : Calls Tryz.prog 8 #[] w (Bel (.bool true) w) := by
  have KC := Lib.hid (fun w1 : World => list_Work ln_count [nPl 2] (some ⟨w1.heap.size, 0, none⟩) 1 (w1.alloc (.cells #[.int .i64 3, .int .i64 2, .string ⟨#[]⟩, .slice none 0 0] 31)) (by decide) (by rw [size_alloc]; exact lies_nums w1 [2] (by decide)))
  have KA := Lib.hid (fun w1 : World => list_Work ln_at [.mk 5 0 ⟨#[]⟩ [], nPl 0] (some ⟨w1.heap.size, 0, none⟩) 2 (w1.alloc (.cells #[.int .i64 5, .int .i64 0, .string ⟨#[]⟩, .slice none 0 0, .int .i64 3, .int .i64 0, .string ⟨#[]⟩, .slice none 0 0] 31)) (by decide) (by
    rw [size_alloc]
    exact plits [⟨.mk 5 0 ⟨#[]⟩ [], none, 0⟩, nAt 0] (by
      simp only [List.forall_mem_cons]
      refine ⟨⟨⟨by rfl, by rfl, by decide, by decide⟩, by unfold Pl.list Pls.lies; trivial⟩, ⟨nPl_sane (by decide), by unfold nAt nPl Pl.list Pls.lies; trivial⟩, fun x h => absurd h List.not_mem_nil⟩)))
  have KZ := Lib.hid (fun w1 : World => list_Work ln_size [nPl 1] (some ⟨w1.heap.size, 0, none⟩) 1 (w1.alloc (.cells #[.int .i64 3, .int .i64 1, .string ⟨#[]⟩, .slice none 0 0] 31)) (by decide) (by rw [size_alloc]; exact lies_nums w1 [1] (by decide)))
  simp only [count2, List.length_cons, List.length_nil, Nat.zero_add] at KC
  simp only [at00, List.length_cons, List.length_nil, Nat.zero_add, Nat.reduceAdd] at KA
  simp only [size1, List.length_cons, List.length_nil, Nat.zero_add] at KZ
  unfold ln_count at KC
  unfold ln_at at KA
  unfold ln_size at KZ
  go_enter Tryz.func8, Tryz.ntmps8
  go_wp2_with fail
  refine (list_Kit w).mono ?_
  rintro e w1 ⟨M, v, ts, hM, rfl, hK, hts, hb⟩
  have HB1 := Lib.hid hb
  have K1 := Lib.hid (made11 hK hts (by decide) 8 (by decide) (by decide) 2 (by omega) ok_list_map)
  clear hb hK hts hM
  go_wp2_with fail
  refine K1.out.mono ?_
  rintro e w2 ⟨nb1, vs1, hl1, rfl, hn1, hb2⟩
  have HB2 := Lib.hid (HB1.out.trans (hb2.mono HB1.out.size))
  clear hn1 hl1 hb2 K1
  have h1 : ∀ (xT : TypeId) (w : World), (Instr.typeAssert (.iface 159 (.pointer (some ⟨nb1, 0, none⟩))) xT 67 true).run Tryz.prog w = .ok (.tuple #[.iface 159 (.pointer (some ⟨nb1, 0, none⟩)), .bool true]) w := fun xT w => run_typeAssert_hasB (want := Tryz.prog.methodsAt 67) (by kernel_rfl) (by kernel_rfl) _ xT w
  have h2 : ∀ (xT : TypeId) (w : World), (Instr.typeAssert (.iface 159 (.pointer (some ⟨nb1, 0, none⟩))) xT 70 true).run Tryz.prog w = .ok (.tuple #[.iface 159 (.pointer (some ⟨nb1, 0, none⟩)), .bool true]) w := fun xT w => run_typeAssert_hasB (want := Tryz.prog.methodsAt 70) (by kernel_rfl) (by kernel_rfl) _ xT w
  have h3 : ∀ (xT : TypeId) (w : World), (Instr.typeAssert (.iface 159 (.pointer (some ⟨nb1, 0, none⟩))) xT 73 true).run Tryz.prog w = .ok (.tuple #[.nilIface, .bool false]) w := fun xT w => run_typeAssert_lacksB (want := Tryz.prog.methodsAt 73) (by kernel_rfl) (by kernel_rfl) (by kernel_rfl) _ xT w
  go_wp2_with fail
  refine (law11_num 2 _).mono ?_
  rintro e w3 ⟨rfl, hb3⟩
  have HB3 := Lib.hid (HB2.out.trans (hb3.mono HB2.out.size))
  clear hb3
  go_wp2_with fail
  refine (KC.out w3).mono ?_
  rintro e w4 ⟨v4, rfl, hv4, _, hb4⟩
  have hs3 := HB3.out.size
  have HB4 := Lib.hid ((HB3.out.alloc hs3 _).trans (hb4.mono (by simp; omega)))
  have hv4 := hv4 rfl
  obtain ⟨t4, z4, rfl⟩ := hv4.iface
  have HV4 := Lib.hid (hv4.mono (S' := fun b => b < w4.heap.size) (fun b hb => hb.2))
  clear hb4 hv4 hs3
  go_wp2_with fail
  refine (law11_of none 0 0 _).mono ?_
  rintro e w5 ⟨rfl, hb5⟩
  have HC5 := Lib.hid hb5
  have HB5 := Lib.hid (HB4.out.trans (hb5.mono HB4.out.size))
  clear hb5
  go_wp2_with fail
  refine (law11_num 0 _).mono ?_
  rintro e w6 ⟨rfl, hb6⟩
  have HC6 := Lib.hid (HC5.out.trans (hb6.mono HC5.out.size))
  have HB6 := Lib.hid (HB5.out.trans (hb6.mono HB5.out.size))
  clear hb6
  go_wp2_with fail
  refine (KA.out w6).mono ?_
  rintro e w7 ⟨v7, rfl, _, hv7, hb7⟩
  have hv7 := hv7 (by decide)
  subst hv7
  have hs6 := HB6.out.size
  have hc6 := HC6.out.size
  have HB7 := Lib.hid ((HB6.out.alloc hs6 _).trans (hb7.mono (by simp; omega)))
  have HC7 := Lib.hid ((HC6.out.alloc hc6 _).trans (hb7.mono (by simp; omega)))
  clear hb7 hs6 hc6
  go_wp2_with fail
  refine (law11_num 1 _).mono ?_
  rintro e w8 ⟨rfl, hb8⟩
  have HC8 := Lib.hid (HC7.out.trans (hb8.mono HC7.out.size))
  have HB8 := Lib.hid (HB7.out.trans (hb8.mono HB7.out.size))
  clear hb8
  go_wp2_with fail
  refine (KZ.out w8).mono ?_
  rintro e w9 ⟨v9, rfl, _, hv9, hb9⟩
  have hv9 := hv9 (by decide)
  subst hv9
  have hs8 := HB8.out.size
  have hc8 := HC8.out.size
  have HB9 := Lib.hid ((HB8.out.alloc hs8 _).trans (hb9.mono (by simp; omega)))
  have HC9 := Lib.hid ((HC8.out.alloc hc8 _).trans (hb9.mono (by simp; omega)))
  clear hb9 hs8 hc8
  go_wp2_with fail
  refine (law11_num 0 _).mono ?_
  rintro e w10 ⟨rfl, hb10⟩
  have HC10 := Lib.hid (HC9.out.trans (hb10.mono HC9.out.size))
  have HB10 := Lib.hid (HB9.out.trans (hb10.mono HB9.out.size))
  clear hb10
  go_wp2_with fail
  refine (law11_num 1 _).mono ?_
  rintro e w11 ⟨rfl, hb11⟩
  have HC11 := Lib.hid (HC10.out.trans (hb11.mono HC10.out.size))
  have HB11 := Lib.hid (HB10.out.trans (hb11.mono HB10.out.size))
  clear hb11
  have hs11 := HB11.out.size
  have hc11 := HC11.out.size
  have HL := Lib.hid (lies_nums w11 [0, 1] (by decide))
  have HB12 := Lib.hid (HB11.out.alloc hs11 (.cells #[.int .i64 3, .int .i64 0, .string ⟨#[]⟩, .slice none 0 0, .int .i64 3, .int .i64 1, .string ⟨#[]⟩, .slice none 0 0] 31))
  have HC12 := Lib.hid (HC11.out.alloc hc11 (.cells #[.int .i64 3, .int .i64 0, .string ⟨#[]⟩, .slice none 0 0, .int .i64 3, .int .i64 1, .string ⟨#[]⟩, .slice none 0 0] 31))
  go_wp2_with fail
  refine (law11_of _ _ _ _).mono ?_
  rintro e w13 ⟨rfl, hb13⟩
  have HB13 := Lib.hid (HB12.out.trans (hb13.mono HB12.out.size))
  have HC13 := Lib.hid (HC12.out.trans (hb13.mono HC12.out.size))
  have KI := Lib.hid (law2_Is (.list [.int 0, .int 1]) (.iface t4 z4) (fun b => b < w4.heap.size) w13 (Vl.sep.is _ _ _ (HV4.out.below HC13.out (fun _ h => h))) (fun c hc => Nat.lt_of_lt_of_le hc HC13.out.size) (by unfold Vl.fine; exact ⟨by decide, by unfold Vls.fine; exact ⟨by unfold Vl.fine; decide, by unfold Vls.fine; exact ⟨by unfold Vl.fine; decide, by unfold Vls.fine; trivial⟩⟩⟩) (by decide) (by decide) (some ⟨w11.heap.size, 0, none⟩) 2 (by
    have h := HL.out
    have hs := hb13.size
    rw [size_alloc] at hs
    exact h.below (B' := w13.heap.size) (by have := hb13; rw [size_alloc] at this; exact this) hs))
  clear hb13 hs11 hc11
  go_wp2_with fail
  refine KI.out.mono ?_
  rintro e w14 ⟨rfl, hb14⟩
  have HB14 := Lib.hid (HB13.out.trans (hb14.mono HB13.out.size))
  clear hb14 KI
  go_wp2
  go_ret
  exact ⟨rfl, HB14.out⟩
end Go.Proofs.YtcldbjgikkfnbaaGreatDoor
