/-
  Texts of a proof in one: ListOps4, ListOps5, ListOps6. Conditions: each names its own.
-/
import Derived.Test.YtcldbjgikkfnbaaGreatDoorCListOps3
import Derived.Deep.RegionLaw
import Derived.Deep.AppendLies
import Derived.Lib.AppendZeros
/-
  list.of, list.add: walks. Conditions: the values lie in memory.
-/
namespace Go.Proofs.YtcldbjgikkfnbaaGreatDoor
open Go.RowKit
set_option linter.unusedVariables false

theorem Vls.fine_append : ∀ {l m : List Vl}, Vls.fine l → Vls.fine m → Vls.fine (l ++ m)
  | [], m, _, h => h
  | x :: xs, m, h, h' => by
    unfold Vls.fine at h
    simp only [List.cons_append]
    unfold Vls.fine
    exact ⟨h.1, Vls.fine_append h.2 h'⟩
theorem lout_then {r : Int × Vl} {S : Nat → Prop} {w w1 w' : World} {e : Ending} (hb : Below w.heap.size w w1) (h : LOut r (fun b => S b ∨ fresh w w1 b) w1 e w') : LOut r S w e w' := by
  obtain ⟨v, h1, h2, h3, h4⟩ := h
  have hs := hb.size
  have hs4 := h4.size
  refine ⟨v, h1, fun h0 => (h2 h0).mono (fun b hb' => ?_), h3, hb.trans (h4.mono hs)⟩
  rcases hb' with (h | h) | h
  · exact .inl h
  · exact .inr ⟨h.1, Nat.lt_of_lt_of_le h.2 hs4⟩
  · exact .inr ⟨Nat.le_trans hs h.1, h.2⟩
set_option maxRecDepth 100000 in
theorem list_of (l : List Vl) (A : Option Addr) (n c base : Nat) (us : List Value) (S : Nat → Prop) (w : World) (hn : n = l.length) (hown : w.ownsRow base 35 1 (.slice A n c) n us) (hsep : Vls.sep w l S us) (hS : ∀ b, S b → b < w.heap.size) (hf : Vls.fine l) (hsz : n * 16 ≤ 140737488351232) :
    Calls Tryz.prog 43 #[.slice A n c] w (LOut (lMade l) S w) := by
  obtain ⟨i0, hi, hz0, hz1, hz2⟩ := info_parts info_value
  obtain ⟨hn1, hn2⟩ := own_news hown
  have hul := hsep.length
  have hul2 : us.length = n := by omega
  have HS := Lib.hid hsep
  have HF := Lib.hid (ifaces hsep)
  have HFN := Lib.hid hf
  have HN := Lib.hid hn2
  have HSS := Lib.hid hS
  have HN1 := Lib.hid hn1
  have HNL := Lib.hid hn
  clear hown hsep hn2 hn1 hS hf hn
  go_enter Tryz.func43, Tryz.ntmps43
  go_wp2_with (at_builtin; refine wpList_append_any2 rfl _ _ 47 46 rfl w.heap.size 35 i0 .nilIface 1 16 Tryz.underlying47 Tryz.underlying46 hi hz0 hz1 hz2 rfl (by decide) _ _ _ rfl (own_lit w _) A n c us rfl (by omega) HN1.out (fun ad hA j u hj => alloc_cell _ (HN.out ad hA j u hj)) HF.out (by unfold maxLen; omega) (by omega) (by simp) ?_)
  intro v' w1 hown1 hgr1 _
  replace hown1 : w1.ownsRow w.heap.size 35 1 v' n us := by simpa using hown1
  obtain ⟨A', c', rfl⟩ := own_form hown1
  have HB := Lib.hid (((Below.refl w.heap.size w).alloc (Nat.le_refl _) (.cells #[] 35)).grown hgr1 (by simp) (fun g hg => by injection hg with hg; have h2 : w.heap.size = g := hg; omega))
  have hse := sep_list (S := fun b => S b ∨ fresh w w1 b) HNL.out hown1 (fun g hg => .inr (hown1.lt g hg)) (Vls.sep.keep _ _ _ _ (fun b hb => HB.out.block b (HSS.out b hb)) (fun b hb => ⟨.inl hb, fun e => by have := (hown1.lt b e).1; have := HSS.out b hb; omega⟩) HS.out)
  have KM := Lib.hid (list_made l A' n c' (fun b => S b ∨ fresh w w1 b) w1 HNL.out (by unfold Vl.fine; exact ⟨by have := HNL.out; omega, HFN.out⟩) hse)
  clear hse hown1 hgr1
  go_wp2_with fail
  refine KM.out.mono ?_
  rintro e w2 ⟨v, rfl, h1, h2, hb2⟩
  have H := Lib.hid (show LOut (lMade l) (fun b => S b ∨ fresh w w1 b) w1 (.returned (.tuple #[v, .int .i64 (lMade l).1])) w2 from ⟨v, rfl, h1, h2, hb2⟩)
  clear h1 h2 hb2
  generalize lMade l = r at *
  go_wp2
  go_ret2
  exact lout_then HB.out H.out
set_option maxRecDepth 100000 in
set_option maxHeartbeats 4000000 in
theorem list_add (x y : Vl) (u v : Value) (b o c : Nat) (S S1 S2 : Nat → Prop) (w : World) (hx : x.sep w S1 u) (hy : y.sep w S2 v) (h1 : ∀ b, S1 b → S b) (h2 : ∀ b, S2 b → S b) (h12 : ∀ b, S1 b → ¬ S2 b) (hS : ∀ b, S b → b < w.heap.size) (hc : w.cell? ⟨b, o, none⟩ = some u) (hd : w.cell? ⟨b, o + 1, none⟩ = some v) (hlen : ∀ l, x.asList = some l → l.length ≤ 65536) (hfx : x.fine) (hfy : y.fine) :
    Calls Tryz.prog 49 #[.slice (some ⟨b, o, none⟩) 2 c] w (LOut (lAdd x y) S w) := by
  obtain ⟨i0, hi, hz0, hz1, hz2⟩ := info_parts info_value
  cases hl : x.asList with
  | none =>
    rw [show lAdd x y = lBad 20 by unfold lAdd; rw [hl]]
    obtain ⟨T, y, rfl, hT⟩ := sep_noList hx hl
    clear hx hl hlen hy hfx hfy
    go_enter Tryz.func49, Tryz.ntmps49
    go_wp2_with fail
    refine (list_list_miss _ _ hT _).mono ?_
    rintro e w' ⟨rfl, rfl⟩
    go_wp2
    go_ret2
    exact lout_bad (by decide) _ _ _ (Below.refl _ _)
  | some l =>
    rw [show lAdd x y = lMade (l ++ [y]) by unfold lAdd; rw [hl]]
    have hlen2 := hlen l hl
    obtain ⟨A, c2, us, rfl, hown, hgS, hsep⟩ := sep_asList hx hl
    obtain ⟨hn1, hn2⟩ := own_news hown
    have hul := hsep.length
    have HUL := Lib.hid hul
    have HF := Lib.hid (ifaces hsep)
    have HN1 := Lib.hid hn1
    have HC : Hid (∀ w' : World, Below w.heap.size w w' → ∀ ad, A = some ad → ∀ j u, us[j]? = some u → w'.cell? (ad.add j) = some u) := Lib.hid (fun w' hb ad hA j u hj => by
      have h0 := own_block hown (w' := w') (fun g hg => hb.block g (hS g (h1 g (hgS g hg))))
      exact (own_news h0).2 ad hA j u hj)
    have HSE : Hid (∀ w' : World, Below w.heap.size w w' → Vls.sep w' (l ++ [y]) S (us ++ [v])) := Lib.hid (fun w' hb => Vls.sep.snoc (Vls.sep.keep _ _ _ _ (fun b hb' => hb.block b (hS b (h1 b hb'.1))) (fun _ h => h) hsep) (Vl.sep.keep _ _ _ _ (fun b hb' => hb.block b (hS b (h2 b hb'))) (fun _ h => h) hy) (fun b hb => h1 b hb.1) h2 (fun b hb => h12 b hb.1))
    have HSS := Lib.hid hS
    have HFI : Hid ((Vl.list (l ++ [y])).fine) := Lib.hid (by
      have hfl := (fine_at hfx hl).2
      unfold Vl.fine
      refine ⟨by simp; omega, ?_⟩
      exact Vls.fine_append hfl (by unfold Vls.fine; exact ⟨hfy, by unfold Vls.fine; trivial⟩))
    have hbb : b < w.heap.size := World.block_lt_of_cell? _ _ hc
    obtain ⟨tv, zv, rfl⟩ := hy.iface
    have hd1 : w.drew.cell? ⟨b, o + 1, none⟩ = some (.iface tv zv) := hd
    have HB0 := Lib.hid (Below.refl w.heap.size w).drew
    clear hx hlen hy hsep hown hgS hn1 hn2 hfx hfy h1 h2 h12 hS hul hl
    go_enter Tryz.func49, Tryz.ntmps49
    go_wp2_with fail
    refine (list_list_hit _ _ _ _).mono ?_
    rintro e w' ⟨rfl, rfl⟩
    go_wp2_with fail
    go_region_law (first
      | (refine step_append_lies _ rfl _ _ 47 rfl w.heap.size 35 i0 .nilIface 1 16 Tryz.underlying47 hi hz0 hz1 hz2 rfl (by decide) _ l.length us rfl (HO6.out.alloc _) ⟨w6.heap.size, 0, none⟩ 1 1 [.iface tv zv] rfl rfl (one_new w6 _ _) (by intro u hu; simp at hu; subst hu; rfl) (by decide) (by unfold maxLen; omega) (by omega) (by have := HB6.out.size; simp; omega) _ rfl ?_; intro g7 cap7 w7 hown7 hgr7 hat7 hlt7; have HO7 := Lib.hid hown7; have HB7 := Lib.hid ((HB6.out.alloc HB6.out.size _).grown hgr7 (by have := HB6.out.size; simp; omega) (fun g hg => (HO6.out.lt g hg).1)); clear hown7 hgr7 hat7 hlt7)
      | (refine step_append_lies _ rfl _ _ 47 rfl w.heap.size 35 i0 .nilIface 1 16 Tryz.underlying47 hi hz0 hz1 hz2 rfl (by decide) _ l.length us rfl HO6.out ⟨w.heap.size, 0, none⟩ 1 1 [.iface tv zv] rfl rfl HD6.out (by intro u hu; simp at hu; subst hu; rfl) (by decide) (by unfold maxLen; omega) (by omega) HB6.out.size _ rfl ?_; intro g7 cap7 w7 hown7 hgr7 hat7 hlt7; have HO7 := Lib.hid hown7; have HB7 := Lib.hid (HB6.out.grown hgr7 HB6.out.size (fun g hg => (HO6.out.lt g hg).1)); clear hown7 hgr7 hat7 hlt7)
      | (go_simp; refine (list_Clone A l.length c2 us _ HUL.out HN1.out (HC.out _ HB0.out) HF.out (by omega)).mono ?_; rintro e w6 ⟨A6, c6, rfl, hown6, hb6⟩; have HO6 := Lib.hid (own_base hown6 (base' := w.heap.size) (Nat.le_refl _)); have HB6 := Lib.hid (HB0.out.trans (hb6.mono (Nat.le_refl _))); have d6 := (hb6.cell (p := ⟨b, o + 1, none⟩) hbb).trans hd1; clear hown6 hb6)
      | (go_simp; refine (list_Clone A l.length c2 us _ HUL.out HN1.out (HC.out _ (HB0.out.alloc (Nat.le_refl _) (.cells #[.iface tv zv] 35))) HF.out (by omega)).mono ?_; rintro e w6 ⟨A6, c6, rfl, hown6, hb6⟩; have HO6 := Lib.hid (own_base hown6 (base' := w.heap.size) (by simp)); have HB6 := Lib.hid ((HB0.out.alloc (Nat.le_refl _) (.cells #[.iface tv zv] 35)).trans (hb6.mono (by simp))); have HD6 : Hid (∀ j u, [Value.iface tv zv][j]? = some u → w6.cell? ((⟨w.heap.size, 0, none⟩ : Addr).add j) = some u) := Lib.hid (World.news_of_block ((hb6.block w.heap.size (by simp)).trans (heap_alloc_new w.drew (.cells #[.iface tv zv] 35)))); clear hown6 hb6)
      | (go_simp; refine (list_made (l ++ [y]) (some ⟨g7, 0, none⟩) (l.length + 1) cap7 (fun b => S b ∨ fresh w w7 b) w7 (by simp) HFI.out (sep_list (by simp) HO7.out (fun g hg => .inr (HO7.out.lt g hg)) ((HSE.out w7 HB7.out).mono (fun b hb => ⟨.inl hb, fun e => by have := (HO7.out.lt b e).1; have := HSS.out b hb; omega⟩)))).mono ?_; rintro e w8 ⟨z8, rfl, h81, h82, hb8⟩; have H8 := Lib.hid (show LOut (lMade (l ++ [y])) (fun b => S b ∨ fresh w w7 b) w7 (.returned (.tuple #[z8, .int .i64 (lMade (l ++ [y])).1])) w8 from ⟨z8, rfl, h81, h82, hb8⟩); clear h81 h82 hb8))
    all_goals
      generalize lMade (l ++ [y]) = r at *
      go_wp2
      go_ret2
      exact lout_then HB7.out H8.out
end Go.Proofs.YtcldbjgikkfnbaaGreatDoor

/-
  slices.Grow of nil, slices.Concat of two lists; list.join: walks. Conditions: the values lie in memory.
-/
namespace Go.Proofs.YtcldbjgikkfnbaaGreatDoor
open Go.RowKit
set_option linter.unusedVariables false

set_option maxRecDepth 100000 in
theorem list_Grow (n : Nat) (w : World) (hn : n ≤ 200000) : Calls Tryz.prog 104 #[.slice none 0 0, .int .i64 (n : Int)] w (RowNew 0 [] w) := by
  obtain ⟨i0, hi, hz0, hz1, hz2⟩ := info_parts info_value
  by_cases h0 : n = 0
  · subst h0
    go_enter Tryz.func104, Tryz.ntmps104
    go_wp2
    go_ret
    exact ⟨none, 0, rfl, World.ownsRow_nil _ _ _ _, Below.refl _ _⟩
  · have hp : 0 < n := by omega
    have hr := Lib.run_append_nil_zeros (P := Tryz.prog) w 47 3 47 35 i0 .nilIface .i64 .i64 Tryz.underlying47 Tryz.underlying3 hi hz0 n hp (by omega) (by omega) (by rw [hz2]; omega)
    have hge := grownCap_ge w n 0 35
    have hle := grownCap_le_maxLen w n 0 35 (by unfold maxLen; omega)
    have HO := Lib.hid (show (w.drew.alloc (.cells (Builtin.zeroCells (Value.nilIface).cells n ++ Builtin.zeroCells (Value.nilIface).cells (grownCap w n 0 35 - n)) 35)).ownsRow w.heap.size 35 1 (.slice (some ⟨w.heap.size, 0, none⟩) 0 (grownCap w n 0 35)) 0 [] from
      ⟨rfl, .inr ⟨w.heap.size, _, _, rfl, Nat.le_refl _, heap_alloc_new w.drew _, Nat.zero_le _, hle, by rw [Array.size_append, size_zeroCells, size_zeroCells]; show n * 1 + _ * 1 = _; omega, rfl⟩⟩)
    have HB := Lib.hid ((Below.refl w.heap.size w).drew.alloc (Nat.le_refl _) (.cells (Builtin.zeroCells (Value.nilIface).cells n ++ Builtin.zeroCells (Value.nilIface).cells (grownCap w n 0 35 - n)) 35))
    generalize grownCap w n 0 35 = cap at *
    generalize w.drew.alloc _ = w1 at *
    have HR := Lib.hid hr
    clear hr
    go_enter Tryz.func104, Tryz.ntmps104
    go_wp2_with (at_builtin; refine Lib.wpList_append_run _ rfl _ _ _ _ rfl _ _ rfl rfl _ _ HR.out ?_)
    go_ret
    exact ⟨_, _, rfl, HO.out, HB.out⟩
set_option maxRecDepth 100000 in
set_option maxHeartbeats 4000000 in
theorem list_Concat (A B : Option Addr) (n c m d : Nat) (us vs : List Value) (g : Nat) (k : Nat) (w : World) (hg : w.heap[g]? = some (.cells #[.slice A n c, .slice B m d] 47 (0, 0))) (hul : us.length = n) (hvl : vs.length = m) (hA : A = none → n = 0) (hB : B = none → m = 0)
    (hu : ∀ ad, A = some ad → ∀ j u, us[j]? = some u → w.cell? (ad.add j) = some u) (hv : ∀ ad, B = some ad → ∀ j u, vs[j]? = some u → w.cell? (ad.add j) = some u) (h1 : ∀ u ∈ us, u.oneCell' = true) (h2 : ∀ u ∈ vs, u.oneCell' = true) (hn : n ≤ 65536) (hm : m ≤ 65536) :
    Calls Tryz.prog 81 #[.slice (some ⟨g, 0, none⟩) 2 k] w (RowNew (n + m) (us ++ vs) w) := by
  obtain ⟨i0, hi, hz0, hz1, hz2⟩ := info_parts info_value
  have hc : ∀ j, w.cell? ⟨g, j, none⟩ = (#[.slice A n c, .slice B m d] : Array Value)[j]? := fun j => by simp [World.cell?, hg]
  have hglt := lt_of_block hg
  have HA := Lib.hid hA
  have HBn := Lib.hid hB
  have HU := Lib.hid hu
  have HV := Lib.hid hv
  have H1 := Lib.hid h1
  have H2 := Lib.hid h2
  have HG := Lib.hid hg
  have KG := Lib.hid (list_Grow (n + m) w (by omega))
  rw [show (((n + m : Nat) : Int)) = (n : Int) + (m : Int) by omega] at KG
  clear hA hB hu hv h1 h2 hg
  go_enter Tryz.func81, Tryz.ntmps81
  go_wp2_with fail
  refine wp_loop_rounds 3 ?_
  rw [rounds_succ]
  go_wp2
  rw [rounds_succ]
  go_wp2
  rw [rounds_succ]
  go_wp2_with fail
  refine KG.out.mono ?_
  rintro e w1 ⟨A1, c1, rfl, hown1, hb1⟩
  have HO1 := Lib.hid hown1
  have HB1 := Lib.hid hb1
  have hc1 : ∀ j, w1.cell? ⟨g, j, none⟩ = (#[.slice A n c, .slice B m d] : Array Value)[j]? := fun j => (hb1.cell (p := ⟨g, j, none⟩) hglt).trans (hc j)
  have HC1 := Lib.hid hc1
  have hs1 := hb1.size
  clear hown1 hb1 KG
  go_wp2_with fail
  refine wp_loop_rounds 3 ?_
  rw [rounds_succ]
  go_wp2_with (at_builtin; refine wpList_append_any rfl _ _ 47 rfl w.heap.size 35 i0 .nilIface 1 16 Tryz.underlying47 hi hz0 hz1 hz2 rfl (by decide) _ _ _ rfl HO1.out A n c us rfl (by omega) HA.out (fun ad hA j u hj => (HB1.out.cell (by exact World.block_lt_of_cell? _ _ (HU.out ad hA j u hj))).trans (HU.out ad hA j u hj)) H1.out (by unfold maxLen; omega) (by omega) hs1 ?_)
  intro v2 w2 hown2 hgr2 hat2
  replace hown2 : w2.ownsRow w.heap.size 35 1 v2 n us := by simpa using hown2
  obtain ⟨A2, c2, rfl⟩ := own_form hown2
  have HO2 := Lib.hid hown2
  have HB2 := Lib.hid (HB1.out.grown hgr2 hs1 (fun g hg => (HO1.out.lt g hg).1))
  have hc2 : ∀ j, w2.cell? ⟨g, j, none⟩ = (#[.slice A n c, .slice B m d] : Array Value)[j]? := fun j => (HB2.out.cell (p := ⟨g, j, none⟩) hglt).trans (hc j)
  have hs2 := HB2.out.size
  clear hown2 hgr2 hat2 hc1
  go_wp2
  rw [rounds_succ]
  go_wp2_with (at_builtin; refine wpList_append_any rfl _ _ 47 rfl w.heap.size 35 i0 .nilIface 1 16 Tryz.underlying47 hi hz0 hz1 hz2 rfl (by decide) _ _ _ rfl HO2.out B m d vs rfl (by omega) HBn.out (fun ad hA j u hj => (HB2.out.cell (by exact World.block_lt_of_cell? _ _ (HV.out ad hA j u hj))).trans (HV.out ad hA j u hj)) H2.out (by unfold maxLen; omega) (by omega) hs2 ?_)
  intro v3 w3 hown3 hgr3 hat3
  obtain ⟨A3, c3, rfl⟩ := own_form hown3
  have HO3 := Lib.hid hown3
  have HB3 := Lib.hid (HB2.out.grown hgr3 hs2 (fun g hg => (HO2.out.lt g hg).1))
  have hc3 : ∀ j, w3.cell? ⟨g, j, none⟩ = (#[.slice A n c, .slice B m d] : Array Value)[j]? := fun j => (HB3.out.cell (p := ⟨g, j, none⟩) hglt).trans (hc j)
  clear hown3 hgr3 hat3 hc2
  go_wp2
  rw [rounds_succ]
  go_wp2
  go_ret
  exact ⟨A3, c3, rfl, HO3.out, HB3.out⟩
set_option maxRecDepth 100000 in
set_option maxHeartbeats 4000000 in
theorem list_join (x y : Vl) (u v : Value) (b o c : Nat) (S S1 S2 : Nat → Prop) (w : World) (hx : x.sep w S1 u) (hy : y.sep w S2 v) (h1 : ∀ b, S1 b → S b) (h2 : ∀ b, S2 b → S b) (h12 : ∀ b, S1 b → ¬ S2 b) (hS : ∀ b, S b → b < w.heap.size) (hc : w.cell? ⟨b, o, none⟩ = some u) (hd : w.cell? ⟨b, o + 1, none⟩ = some v) (hlx : ∀ l, x.asList = some l → l.length ≤ 65536) (hly : ∀ l, y.asList = some l → l.length ≤ 65536) (hfx : x.fine) (hfy : y.fine) :
    Calls Tryz.prog 48 #[.slice (some ⟨b, o, none⟩) 2 c] w (LOut (lJoin x y) S w) := by
  cases hl : x.asList with
  | none =>
    rw [show lJoin x y = lBad 20 by unfold lJoin; rw [hl]]
    obtain ⟨T, z, rfl, hT⟩ := sep_noList hx hl
    cases hm : y.asList with
    | none =>
      obtain ⟨T2, z2, rfl, hT2⟩ := sep_noList hy hm
      clear hx hl hlx hly hy hfx hfy hm
      go_enter Tryz.func48, Tryz.ntmps48
      go_wp2_with fail
      refine (list_list_miss _ _ hT _).mono ?_
      rintro e w' ⟨rfl, rfl⟩
      go_wp2_with fail
      refine (list_list_miss _ _ hT2 _).mono ?_
      rintro e w' ⟨rfl, rfl⟩
      go_wp2
      go_ret2
      exact lout_bad (by decide) _ _ _ (Below.refl _ _)
    | some m =>
      obtain ⟨B, c3, vs, rfl, _⟩ := sep_asList hy hm
      clear hx hl hlx hly hy hfx hfy hm
      go_enter Tryz.func48, Tryz.ntmps48
      go_wp2_with fail
      refine (list_list_miss _ _ hT _).mono ?_
      rintro e w' ⟨rfl, rfl⟩
      go_wp2_with fail
      refine (list_list_hit _ _ _ _).mono ?_
      rintro e w' ⟨rfl, rfl⟩
      go_wp2
      go_ret2
      exact lout_bad (by decide) _ _ _ (Below.refl _ _)
  | some l =>
    have hlen2 := hlx l hl
    obtain ⟨A, c2, us, rfl, hown, hgS, hsep⟩ := sep_asList hx hl
    cases hm : y.asList with
    | none =>
      rw [show lJoin x y = lBad 20 by unfold lJoin; rw [hl, hm]]
      obtain ⟨T2, z2, rfl, hT2⟩ := sep_noList hy hm
      clear hx hl hlx hly hy hfx hfy hm hown hsep
      go_enter Tryz.func48, Tryz.ntmps48
      go_wp2_with fail
      refine (list_list_hit _ _ _ _).mono ?_
      rintro e w' ⟨rfl, rfl⟩
      go_wp2_with fail
      refine (list_list_miss _ _ hT2 _).mono ?_
      rintro e w' ⟨rfl, rfl⟩
      go_wp2
      go_ret2
      exact lout_bad (by decide) _ _ _ (Below.refl _ _)
    | some m =>
      rw [show lJoin x y = lMade (l ++ m) by unfold lJoin; rw [hl, hm]]
      have hlen3 := hly m hm
      obtain ⟨B, c3, vs, rfl, hown2, hgS2, hsep2⟩ := sep_asList hy hm
      have HUL := Lib.hid hsep.length
      have HVL := Lib.hid hsep2.length
      have HF := Lib.hid (ifaces hsep)
      have HF2 := Lib.hid (ifaces hsep2)
      have HN1 := Lib.hid (own_news hown).1
      have HN2 := Lib.hid (own_news hown2).1
      have HC : Hid (∀ w' : World, Below w.heap.size w w' → ∀ ad, A = some ad → ∀ j u, us[j]? = some u → w'.cell? (ad.add j) = some u) := Lib.hid (fun w' hb ad hA j u hj => by
        have h0 := own_block hown (w' := w') (fun g hg => hb.block g (hS g (h1 g (hgS g hg))))
        exact (own_news h0).2 ad hA j u hj)
      have HD : Hid (∀ w' : World, Below w.heap.size w w' → ∀ ad, B = some ad → ∀ j u, vs[j]? = some u → w'.cell? (ad.add j) = some u) := Lib.hid (fun w' hb ad hA j u hj => by
        have h0 := own_block hown2 (w' := w') (fun g hg => hb.block g (hS g (h2 g (hgS2 g hg))))
        exact (own_news h0).2 ad hA j u hj)
      have HSE : Hid (∀ w' : World, Below w.heap.size w w' → Vls.sep w' (l ++ m) S (us ++ vs)) := Lib.hid (fun w' hb => Vls.sep.append (Vls.sep.keep _ _ _ _ (fun b hb' => hb.block b (hS b (h1 b hb'.1))) (fun _ h => h) hsep) (Vls.sep.keep _ _ _ _ (fun b hb' => hb.block b (hS b (h2 b hb'.1))) (fun _ h => h) hsep2) (fun b hb => h1 b hb.1) (fun b hb => h2 b hb.1) (fun b hb hb' => h12 b hb.1 hb'.1))
      have HSS := Lib.hid hS
      have HFI : Hid ((Vl.list (l ++ m)).fine) := Lib.hid (by
        unfold Vl.fine
        exact ⟨by simp; omega, Vls.fine_append (fine_at hfx hl).2 (fine_at hfy hm).2⟩)
      have HB0 := Lib.hid ((Below.refl w.heap.size w).alloc (Nat.le_refl _) (.cells #[.slice A l.length c2, .slice B m.length c3] 47))
      have HX0 := Lib.hid (heap_alloc_new w (.cells #[.slice A l.length c2, .slice B m.length c3] 47))
      clear hx hlx hly hy hsep hsep2 hown hown2 hgS hgS2 hfx hfy h1 h2 h12 hS hl hm
      go_enter Tryz.func48, Tryz.ntmps48
      go_wp2_with fail
      refine (list_list_hit _ _ _ _).mono ?_
      rintro e w' ⟨rfl, rfl⟩
      go_wp2_with fail
      refine (list_list_hit _ _ _ _).mono ?_
      rintro e w' ⟨rfl, rfl⟩
      go_wp2_with fail
      refine (list_Concat A B l.length c2 m.length c3 us vs w.heap.size 2 _ HX0.out HUL.out HVL.out HN1.out HN2.out (HC.out _ HB0.out) (HD.out _ HB0.out) HF.out HF2.out hlen2 hlen3).mono ?_
      rintro e w1 ⟨A1, c1, rfl, hown1, hb1⟩
      have HO1 := Lib.hid (own_base hown1 (base' := w.heap.size) (by simp))
      have HB1 := Lib.hid (HB0.out.trans (hb1.mono (by simp)))
      clear hown1 hb1
      go_wp2_with fail
      refine (list_made (l ++ m) A1 (l.length + m.length) c1 (fun b => S b ∨ fresh w w1 b) w1 (by simp) HFI.out (sep_list (by simp) HO1.out (fun g hg => .inr (HO1.out.lt g hg)) ((HSE.out w1 HB1.out).mono (fun b hb => ⟨.inl hb, fun e => by have := (HO1.out.lt b e).1; have := HSS.out b hb; omega⟩)))).mono ?_
      rintro e w8 ⟨z8, rfl, h81, h82, hb8⟩
      have H8 := Lib.hid (show LOut (lMade (l ++ m)) (fun b => S b ∨ fresh w w1 b) w1 (.returned (.tuple #[z8, .int .i64 (lMade (l ++ m)).1])) w8 from ⟨z8, rfl, h81, h82, hb8⟩)
      clear h81 h82 hb8
      generalize lMade (l ++ m) = r at *
      go_wp2
      go_ret2
      exact lout_then HB1.out H8.out
end Go.Proofs.YtcldbjgikkfnbaaGreatDoor

/-
  list.count: a walk. Conditions: the value lies in memory.
-/
namespace Go.Proofs.YtcldbjgikkfnbaaGreatDoor
open Go.RowKit
set_option linter.unusedVariables false

def intVs (n : Nat) : List Value := (List.range n).map (fun (k : Nat) => .iface 43 (.int .i64 (k : Int)))
theorem sep_ints (w : World) (S : Nat → Prop) : ∀ ks : List Nat, Vls.sep w (ks.map (fun (k : Nat) => Vl.int (k : Int))) S (ks.map (fun (k : Nat) => .iface 43 (.int .i64 (k : Int))))
  | [] => Vls.sep.nil w S
  | k :: ks => Vls.sep.cons (S1 := fun _ => False) (S2 := fun b => S b) (by unfold Vl.sep; rfl) (sep_ints w _ ks) (fun _ h => h.elim) (fun _ h => h) (fun _ h => h.elim)
theorem intVs_succ (n : Nat) : intVs (n + 1) = intVs n ++ [.iface 43 (.int .i64 (n : Int))] := by
  unfold intVs
  rw [List.range_succ, List.map_append]
  rfl
theorem intVs_length (n : Nat) : (intVs n).length = n := by simp [intVs]
theorem below_length (n : Nat) : (below n).length = n := by simp [below]
theorem fine_ints : ∀ ks : List Nat, (∀ k ∈ ks, k < 100000) → Vls.fine (ks.map (fun (k : Nat) => Vl.int (k : Int)))
  | [], _ => by simp only [List.map_nil]; unfold Vls.fine; trivial
  | k :: ks, h => by
    simp only [List.map_cons]
    unfold Vls.fine
    refine ⟨?_, fine_ints ks (fun x hx => h x (by simp [hx]))⟩
    unfold Vl.fine
    have := h k (by simp)
    exact rng_iff.2 (by omega)
set_option maxRecDepth 100000 in
set_option maxHeartbeats 4000000 in
theorem list_count (x : Vl) (u : Value) (S : Nat → Prop) (w : World) (hx : x.sep w S u) : Calls Tryz.prog 55 #[u] w (LOut (lCount x) S w) := by
  obtain ⟨i0, hi, hz0, hz1, hz2⟩ := info_parts info_value
  cases hn : x.asInt with
  | none =>
    rw [show lCount x = lBad 20 by unfold lCount; rw [hn]]
    obtain ⟨T, z, rfl, hT⟩ := sep_noInt hx hn
    have a1 := pf_no_Int T z hT
    clear hx hn
    go_enter Tryz.func55, Tryz.ntmps55
    go_wp2
    go_ret2
    exact lout_bad (by decide) _ _ _ (Below.refl _ _)
  | some n =>
    rw [show lCount x = lCountN n by unfold lCount; rw [hn]]
    obtain rfl := sep_asInt hx hn
    have a1 := pf_as_Int (.int .i64 n)
    clear hx hn
    by_cases h0 : n < 0
    · rw [show lCountN n = lBad 23 by unfold lCountN; rw [if_pos h0]]
      have d0 : decide (n < 0) = true := by simpa using h0
      go_enter Tryz.func55, Tryz.ntmps55
      go_wp2
      go_ret2
      exact lout_bad (by decide) _ _ _ (Below.refl _ _)
    · by_cases h6 : 65536 ≤ n
      · rw [show lCountN n = lBad 2 by unfold lCountN; rw [if_neg h0, if_pos h6]]
        have d0 : decide (n < 0) = false := by simpa using h0
        have d6 : decide (65536 ≤ n) = true := by simpa using h6
        clear h0 h6
        go_enter Tryz.func55, Tryz.ntmps55
        go_wp2
        go_ret2
        exact lout_bad (by decide) _ _ _ (Below.refl _ _)
      · obtain ⟨z, hz⟩ := Int.eq_ofNat_of_zero_le (show 0 ≤ n by omega)
        have HZ := Lib.hid hz
        have hr := Lib.hid (show lCountN n = lMade (below z) by unfold lCountN; rw [if_neg h0, if_neg h6, hz, Int.toNat_natCast])
        have d0 : decide (n < 0) = false := by simpa using h0
        have d6 : decide (65536 ≤ n) = false := by simpa using h6
        have HNL := Lib.hid (show z < 65536 by omega)
        clear h0 h6 hz
        go_enter Tryz.func55, Tryz.ntmps55
        go_wp2_with (rw [HZ.out]; refine wpList_make_own _ rfl _ _ 47 rfl w.heap.size 35 i0 .nilIface 1 Tryz.underlying47 hi hz0 hz1 _ _ _ z rfl rfl rfl (by have := HNL.out; rw [hz2]; omega) (by have := HNL.out; unfold maxLen; omega) (Nat.le_refl _) ?_; intro w1 hown hgr)
        clear d0 d6 a1
        have hzb : z ≤ 140737488351232 := by have := HNL.out; omega
        have hown' : w1.ownsRow w.heap.size 35 1 (.slice (some ⟨w.heap.size, 0, none⟩) 0 z) 0 [] := by simpa using hown
        have HO := Lib.hid hown'
        have HB := Lib.hid ((Below.refl w.heap.size w).grown hgr (Nat.le_refl _) (by simp))
        clear hown hown' hgr
        go_loopw [6, 25] (fun s6 s25 wr => ∃ (k : Nat), k ≤ z ∧ s25 = .int .i64 (k : Int) ∧ s6 = .slice (some ⟨w.heap.size, 0, none⟩) k z ∧ wr.ownsRow w.heap.size 35 1 (.slice (some ⟨w.heap.size, 0, none⟩) k z) k (intVs k) ∧ Below w.heap.size w wr) (fun _ s25 _ => z - (intOf s25).toNat)
        case atStart => exact ⟨0, Nat.zero_le _, rfl, rfl, HO.out, HB.out⟩
        case round =>
          obtain ⟨k, hk, rfl, rfl, hown, hbel⟩ := hrel
          have HO2 := Lib.hid hown
          have HBL := Lib.hid hbel
          have hsz := hbel.size
          clear hown hbel HO HB
          by_cases hlt : k < z
          · have hone := one_new wr (.iface 43 (.int .i64 (k : Int))) 35
            go_wp2_with (at_builtin; refine wpList_append_fits _ rfl _ _ 47 rfl w.heap.size 35 i0 1 Tryz.underlying47 hi hz1 w.heap.size k z (intVs k) rfl (HO2.out.alloc _) ⟨wr.heap.size, 0, none⟩ 1 1 [.iface 43 (.int .i64 (k : Int))] rfl rfl hone (by intro u hu; simp at hu; subst hu; rfl) (by omega) ?_)
            intro w3 hown3 hgr3
            have HO3 : Hid (w3.ownsRow w.heap.size 35 1 (.slice (some ⟨w.heap.size, 0, none⟩) (k + 1) z) (k + 1) (intVs (k + 1))) := Lib.hid (by rw [intVs_succ]; exact hown3)
            have HB3 := Lib.hid ((HBL.out.alloc hsz _).grown hgr3 (by rw [size_alloc]; omega) (fun g hg => by injection hg with hg; omega))
            clear hown3 hgr3 hone
            go_wp2
            go_roundw
            case rel => exact ⟨k + 1, by omega, by go_num, rfl, HO3.out, HB3.out⟩
            case measure => simp [intOf]; omega
          · obtain rfl : k = z := by omega
            have KM := Lib.hid (list_made (below k) (some ⟨w.heap.size, 0, none⟩) k k (fun b => S b ∨ fresh w wr b) wr (below_length k).symm (by unfold Vl.fine; exact ⟨by rw [below_length]; have := HNL.out; omega, fine_ints _ (fun j hj => by have := HNL.out; have := List.mem_range.1 hj; omega)⟩) (sep_list (below_length k).symm HO2.out (fun g hg => .inr (HO2.out.lt g hg)) (sep_ints wr _ (List.range k))))
            go_wp2_with fail
            refine KM.out.mono ?_
            rintro e w8 ⟨z8, rfl, h81, h82, hb8⟩
            have H8 := Lib.hid (show LOut (lMade (below k)) (fun b => S b ∨ fresh w wr b) wr (.returned (.tuple #[z8, .int .i64 (lMade (below k)).1])) w8 from ⟨z8, rfl, h81, h82, hb8⟩)
            clear h81 h82 hb8 KM
            generalize hrr : lMade (below k) = r at *
            clear hrr
            go_wp2
            go_ret2
            rw [hr.out]
            exact lout_then HBL.out H8.out
theorem list_ops5 (x : Vl) (u : Value) (b o c : Nat) (S : Nat → Prop) (w : World) (hx : x.sep w S u) (hc : w.cell? ⟨b, o, none⟩ = some u) : Calls Tryz.prog 54 #[.slice (some ⟨b, o, none⟩) 1 c] w (LOut (lCount x) S w) := by
  have K := Lib.hid (list_count x u S w hx)
  obtain ⟨t, z, rfl⟩ := hx.iface
  clear hx
  generalize lCount x = r at *
  go_enter Tryz.func54, Tryz.ntmps54
  go_wp2_with fail
  refine K.out.mono ?_
  rintro e w8 ⟨z8, rfl, h81, h82, hb8⟩
  have H8 := Lib.hid (show LOut r S w (.returned (.tuple #[z8, .int .i64 r.1])) w8 from ⟨z8, rfl, h81, h82, hb8⟩)
  clear h81 h82 hb8 K
  go_wp2
  go_ret2
  exact H8.out
end Go.Proofs.YtcldbjgikkfnbaaGreatDoor
