/-
  Texts of a proof in one: ListRowS, RefGood11d. Conditions: each names its own.
-/
import Derived.Test.YtcldbjgikkfnbaaGreatDoorCPlSameL
import Derived.RegionTactic
import Derived.Test.YtcldbjgikkfnbaaGreatDoorCRefGood11b
/-
  append of a row that may be nil, at a step of a region that draws its order. A law over any program. Conditions: none.
-/
namespace Go.Proofs.YtcldbjgikkfnbaaGreatDoor
open Go.RowKit
set_option linter.unusedVariables false

section
variable {P : Program}
theorem step_append_any {ops : Array Oper} {o : Oper} {a : Act} {w : World} {K : Act → World → Prop} {Q : Exit → Act → World → Prop} {E : Prop} (hgd : o.guard = none) (s x : Operand) (t : TypeId)
    (ho : o.op = .call { callee := .builtin .append, args := #[s, x], argTypes := #[t, t] })
    (base : Nat) (e : TypeId) (i : TypeInfo) (z : Value) (size bytes : Nat) (ht : P.underlying t = some (.slice e)) (hi : P.info? e = some i) (hz : i.zero = some z)
    (hsize : i.size = size) (hby : i.bytes = bytes) (hzs : z.cells.size = size) (hsz : 0 < size)
    (v : Value) (n : Nat) (xs : List Value) (hs : a.eval s = v) (hown : w.ownsRow base e size v n xs)
    (A : Option Addr) (m c : Nat) (news : List Value) (hx : a.eval x = .slice A m c) (hl : news.length = m * size) (hA : A = none → m = 0) (hnews : ∀ ad, A = some ad → ∀ j u, news[j]? = some u → w.cell? (ad.add j) = some u) (h1 : ∀ u ∈ news, u.oneCell' = true)
    (h63 : n + m ≤ maxLen) (hbytes : (n + m) * bytes ≤ 140737488355328) (hbase : base ≤ w.heap.size)
    (h : ∀ v' w', w'.ownsRow base e size v' (n + m) (xs ++ news) → w.grownBy w' v.ownBlock → (v'.ownBlock = v.ownBlock ∨ v'.ownBlock = some w.heap.size) → K (a.put o.dst v') w') :
    if Region.wanted o (yielded ops a.tmps) = true then Oper.wp P o a w K Q else E := by
  have hw : Region.wanted o (yielded ops a.tmps) = true := by simp [Region.wanted, hgd]
  rw [if_pos hw]
  cases A with
  | some ad =>
    obtain ⟨v', w', hr, h2, h3, _, h5⟩ := run_append_own_at (P := P) w base t o.type e i z size bytes ht hi hz hsize hby hzs hsz v n xs hown ad m c news hl (hnews ad rfl) h1 h63 hbytes hbase
    unfold Oper.wp execOp
    simp only [ho, resolve, invoke, builtin, Sem.run_bind, Sem.run_pure, Result.andThen_ok, List.map_toArray, List.map_cons, List.map_nil, hs, hx, hr]
    exact h v' w' h2 h3 h5
  | none =>
    have hm := hA rfl
    subst hm
    have hn : news = [] := List.eq_nil_of_length_eq_zero (by rw [hl]; simp)
    subst hn
    have hf : ∃ b k, v = .slice b n k ∧ n ≤ k := by
      rcases hown.2 with ⟨e1, h0⟩ | ⟨g, cap, cur, e1, _, _, h3, _⟩
      · exact ⟨none, 0, by rw [e1, h0], by omega⟩
      · exact ⟨_, _, e1, h3⟩
    obtain ⟨b, k, rfl, hnk⟩ := hf
    have hr := run_append_none (P := P) (ty := o.type) ht hi b n k c hnk w
    unfold Oper.wp execOp
    simp only [ho, resolve, invoke, builtin, Sem.run_bind, Sem.run_pure, Result.andThen_ok, List.map_toArray, List.map_cons, List.map_nil, hs, hx, hr]
    exact h _ w (by simpa using hown) ⟨rfl, rfl, rfl, Nat.le_refl _, fun _ _ _ => rfl⟩ (.inl rfl)
end
end Go.Proofs.YtcldbjgikkfnbaaGreatDoor

/-
  espalierref11.Work at 'list.join', 'list.add': walks. Written by a program of mine (gen_refgood11d.py). Conditions: the plain values lie in memory.
-/
namespace Go.Proofs.YtcldbjgikkfnbaaGreatDoor
open Go.RowKit
set_option linter.unusedVariables false

/-- What 'whole' gives, as one. -/
def WholeOut (l : List Pl) (A : Option Addr) (n c : Nat) (x0 x1 : Int) (y : Value) : Prop := ((lPl l).mayB = true ∧ x0 = 5 ∧ x1 = 0 ∧ y = .slice A n c) ∨ ((lPl l).mayB = false ∧ x0 = 0 ∧ x1 = 2 ∧ y = .slice none 0 0)
theorem ref11_whole1 (l : List Pl) (A : Option Addr) (n c : Nat) (w : World) (hn : n = l.length) (hlies : Pls.lies w w.heap.size l A) (hlen : l.length * 56 ≤ 140737488351232) :
    Calls Tryz.prog 33 #[.slice A n c] w fun e w' => ∃ x0 x1 Ay ny cy, e = .returned (.tuple #[.agg #[.int .i64 x0, .int .i64 0, .string ⟨#[]⟩, .slice Ay ny cy], .int .i64 x1, .string ⟨#[]⟩]) ∧ WholeOut l A n c x0 x1 (.slice Ay ny cy) ∧ Below w.heap.size w w' :=
  (ref11_whole l A n c w hn hlies hlen).mono (fun e w' ⟨h, hb⟩ => by
    rcases h with ⟨hm, rfl⟩ | ⟨hm, rfl⟩
    · exact ⟨5, 0, _, _, _, rfl, .inl ⟨hm, rfl, rfl, rfl⟩, hb⟩
    · exact ⟨0, 2, _, _, _, rfl, .inr ⟨hm, rfl, rfl, rfl⟩, hb⟩)
theorem atsL {w w2 : World} {l : List Pl} {A : Option Addr} (h : Pls.lies w2 w.heap.size l A) : ∃ us : List PlAt, us.map PlAt.p = l ∧ (∀ x ∈ us, x.p.sane ∧ Pls.lies w2 w.heap.size x.p.list x.A) ∧ (A = none → l.length = 0) ∧ ∀ ad, A = some ad → ∀ j u, (us.flatMap PlAt.cells)[j]? = some u → w2.cell? (ad.add j) = some u ∧ (ad.add j).block < w.heap.size := by
  obtain ⟨us, h1, h2, h3⟩ := pls_ats h
  refine ⟨us, h1, h2, fun hA => ?_, fun ad hA j u hj => ?_⟩
  · cases l with
    | nil => rfl
    | cons p ps => obtain ⟨b, o, e, _⟩ := h3 (by simp); rw [hA] at e; cases e
  · have hne : l ≠ [] := by
      rintro rfl
      have : us = [] := by simpa using h1
      subst this
      simp at hj
    obtain ⟨b, o, e, hb, hc⟩ := h3 hne
    rw [hA] at e
    injection e with e
    subst e
    rw [Addr.add_lit]
    exact ⟨hc j u hj, hb⟩
theorem q_new (w : World) (q : Pl) (A : Option Addr) (c : Nat) : ∀ ad, some (⟨w.heap.size, 0, none⟩ : Addr) = some ad → ∀ j u, (q.cells4 A c)[j]? = some u → (w.alloc (.cells #[.int .i64 q.kind, .int .i64 q.num, .string q.text, .slice A q.list.length c] 31)).cell? (ad.add j) = some u := fun ad hA => by
  injection hA with hA
  subst hA
  exact World.news_of_block (cs := (q.cells4 A c).toArray) (heap_alloc_new w _)
theorem q_one (q : Pl) (A : Option Addr) (c : Nat) : ∀ u ∈ q.cells4 A c, u.oneCell' = true := by
  intro u hu
  unfold Pl.cells4 at hu
  simp at hu
  rcases hu with rfl | rfl | rfl | rfl <;> rfl
theorem q_kept {w w6 : World} {q : Pl} {A : Option Addr} {c : Nat} (h : w6.heap[w.heap.size]? = (w.alloc (.cells #[.int .i64 q.kind, .int .i64 q.num, .string q.text, .slice A q.list.length c] 31)).heap[w.heap.size]?) : ∀ ad, some (⟨w.heap.size, 0, none⟩ : Addr) = some ad → ∀ j u, (q.cells4 A c)[j]? = some u → w6.cell? (ad.add j) = some u := fun ad hA => by
  injection hA with hA
  subst hA
  exact World.news_of_block (cs := (q.cells4 A c).toArray) (h.trans (heap_alloc_new w _))
theorem old_alloc {w w2 : World} {B : Obj} {us : List Value} {A : Option Addr} (h : ∀ ad, A = some ad → ∀ j u, us[j]? = some u → w2.cell? (ad.add j) = some u ∧ (ad.add j).block < w.heap.size) (hs : w.heap.size ≤ w2.heap.size) : ∀ ad, A = some ad → ∀ j u, us[j]? = some u → (w2.alloc B).drew.cell? (ad.add j) = some u := fun ad hA j u hj =>
  (World.cell?_alloc_lt w2 _ _ (Nat.lt_of_lt_of_le (h ad hA j u hj).2 hs)).trans (h ad hA j u hj).1
theorem four_of {w8 : World} {n : Nat} {z0 z1 z2 z3 : Value} {ty : TypeId} (hx : w8.heap[n]? = some (.cells #[z0, z1, z2, z3] ty)) :
    w8.cell? ⟨n, 0, none⟩ = some z0 ∧ w8.cell? ⟨n, 1, none⟩ = some z1 ∧ w8.cell? ⟨n, 2, none⟩ = some z2 ∧ w8.cell? ⟨n, 3, none⟩ = some z3 ∧ w8.frozen? ⟨n, 0, none⟩ = false ∧ w8.frozen? ⟨n, 1, none⟩ = false ∧ w8.frozen? ⟨n, 2, none⟩ = false ∧ w8.frozen? ⟨n, 3, none⟩ = false := by
  refine ⟨?_, ?_, ?_, ?_, ?_, ?_, ?_, ?_⟩ <;> simp [World.cell?, World.frozen?, hx]
theorem ats_two {w w2 w7 : World} {us vs : List PlAt} (hu : ∀ x ∈ us, x.p.sane ∧ Pls.lies w2 w.heap.size x.p.list x.A) (hv : ∀ x ∈ vs, x.p.sane ∧ Pls.lies w2 w.heap.size x.p.list x.A) (hk : ∀ b o, b < w.heap.size → w7.cell? ⟨b, o, none⟩ = w2.cell? ⟨b, o, none⟩) :
    ∀ x ∈ us ++ vs, x.p.sane ∧ Pls.lies w7 w.heap.size x.p.list x.A := fun x hx => by
  rcases List.mem_append.1 hx with h | h
  · exact ⟨(hu x h).1, (hu x h).2.keep hk (Nat.le_refl _)⟩
  · exact ⟨(hv x h).1, (hv x h).2.keep hk (Nat.le_refl _)⟩
theorem pl_len {p : Pl} (h : p.mayB = true) : p.list.length ≤ 65536 := by
  have hn := mayB_norm h
  have h1 := mayB_mayV h
  obtain ⟨k, n, t, l⟩ := p
  show l.length ≤ 65536
  by_cases k5 : k = 5
  · subst k5
    have e : (Pl.mk 5 n t l).toVl = .list (Pls.toVl l) := by rw [toVl_mk]; rfl
    rw [e] at h1
    have h2 := (Vl.mayV_bounds h1).1
    have h3 := Vls.len_count (Pls.toVl l)
    unfold Vl.count at h2
    rw [Pls.toVl_length] at h3
    omega
  · have hg := (norm_parts hn).1
    have : l.length = 0 := by
      by_cases k1 : k = 1; · subst k1; exact (good_1 hg).2.2
      by_cases k2 : k = 2; · subst k2; exact (good_2 hg).2.2
      by_cases k3 : k = 3; · subst k3; exact (good_3 hg).2
      by_cases k4 : k = 4; · subst k4; exact (good_4 hg).2
      unfold goodB at hg
      simp [k1, k2, k3, k4, k5] at hg
    omega
set_option maxRecDepth 100000 in
set_option maxHeartbeats 8000000 in
theorem ref11_good_join (p q : Pl) (hall : [p, q].all Pl.mayB = true) (hq0 : p.kind = 5) (hq1 : q.kind = 5) (A : Option Addr) (c : Nat) (w : World) (hl : Pls.lies w w.heap.size [p, q] A) :
    Calls Tryz.prog 17 #[.string ⟨#[108, 105, 115, 116, 46, 106, 111, 105, 110]⟩, .slice A 2 c] w (ROut (rWhole (p.list ++ q.list)) w) := by
  obtain ⟨i0, hi, hz0, hz1, hz2⟩ := info_plain_parts
  have HB := Lib.hid ((Below.refl w.heap.size w).alloc (Nat.le_refl _) (.cells #[.int .i64 0, .int .i64 0, .string ⟨#[]⟩, .slice none 0 0] 31))
  have KM := Lib.hid (ref11_may ln_join [p, q] A c _ (by show 2 * 56 ≤ _; omega) (hl.below HB.out HB.out.size))
  rw [may_join, if_pos (show [p, q].length = 2 from rfl), if_pos hall] at KM
  simp only [List.length_cons, List.length_nil, Nat.zero_add, Nat.reduceAdd] at KM
  unfold ln_join at KM
  have HL := Lib.hid hl
  obtain ⟨b, o, rfl⟩ := hl.head (by simp)
  have HALL := Lib.hid hall
  clear hl hall
  go_enter Tryz.func17, Tryz.ntmps17
  go_wp2_with fail
  refine KM.out.mono ?_
  rintro e w1 ⟨rfl, hb1⟩
  have HX1 := Lib.hid ((hb1.block w.heap.size (by simp)).trans (heap_alloc_new w _))
  have HB1 := Lib.hid (HB.out.trans (hb1.mono HB.out.size))
  have HL1 := Lib.hid (HL.out.below HB1.out (Nat.le_refl _))
  have hk0 := (show p.lies w1 w.heap.size b o by simpa using HL1.out.at_ 0 (by simp)).parts.2.1
  have hk1 := (show q.lies w1 w.heap.size b (o + 4) by simpa using HL1.out.at_ 1 (by simp)).parts.2.1
  have KK := Lib.hid (kinds_join b o c p.kind q.kind w1 hk0 hk1 true (by simp [hq0, hq1]))
  clear hb1 KM hk0 hk1
  go_wp2_with fail
  refine KK.out.mono ?_
  rintro e w2 ⟨rfl, hb2⟩
  have HB2 := Lib.hid (HB1.out.trans (hb2.mono HB1.out.size))
  have HL2 := Lib.hid (HL.out.below HB2.out (Nat.le_refl _))
  have hs2 := HB2.out.size
  have hx := (hb2.block w.heap.size (lt_of_block HX1.out)).trans HX1.out
  have HX := Lib.hid hx
  have f0 : ∀ j, w2.cell? ⟨w.heap.size, j, none⟩ = (#[.int .i64 0, .int .i64 0, .string ⟨#[]⟩, .slice none 0 0] : Array Value)[j]? := fun j => by simp [World.cell?, hx]
  have g0 : ∀ j, w2.frozen? ⟨w.heap.size, j, none⟩ = false := fun j => by simp [World.frozen?, hx]
  clear hx
  have hxl := lt_of_block HX.out
  have hsn0 := Lib.hid (show p.lies w2 w.heap.size b o by simpa using HL2.out.at_ 0 (by simp)).sane
  obtain ⟨hbb0, a00, a01, a02, hlen0, A0, c0, a03, hll0⟩ := (show p.lies w2 w.heap.size b o by simpa using HL2.out.at_ 0 (by simp)).parts
  have hsn1 := Lib.hid (show q.lies w2 w.heap.size b (o + 4) by simpa using HL2.out.at_ 1 (by simp)).sane
  obtain ⟨hbb1, a10, a11, a12, hlen1, A1, c1, a13, hll1⟩ := (show q.lies w2 w.heap.size b (o + 4) by simpa using HL2.out.at_ 1 (by simp)).parts
  clear hb2 KK
  have hl0 := hsn0.out.2.2.2
  have hl1 := hsn1.out.2.2.2
  have HLL := Lib.hid hll0
  have HLM := Lib.hid hll1
  have hm0 : [p, q].all Pl.mayB = true := HALL.out
  have hc0 : p.list.length ≤ 65536 ∧ (p.list.length + q.list.length ≤ 200000) := by
    simp only [List.all_cons, List.all_nil, Bool.and_true, Bool.and_eq_true] at hm0
    have b0 := pl_len hm0.1
    have b1 := pl_len hm0.2
    omega
  obtain ⟨hc0, hc1⟩ := hc0
  generalize p.list = l at *
  generalize q.list = m at *
  obtain ⟨us, hu⟩ := atsL HLL.out
  obtain ⟨vs, hv⟩ := atsL HLM.out
  have HU := Lib.hid hu
  have HV := Lib.hid hv
  have HUL : Hid (us.length = l.length) := Lib.hid (by rw [← hu.1, List.length_map])
  have HVL : Hid (vs.length = m.length) := Lib.hid (by rw [← hv.1, List.length_map])
  have HMP : Hid ((us ++ vs).map PlAt.p = l ++ m) := Lib.hid (by rw [List.map_append, hu.1, hv.1])
  have HN : Hid (l.length + m.length = (l ++ m).length) := Lib.hid (by rw [List.length_append])
  have HLEN : Hid ((l ++ m).length * 56 ≤ 140737488351232) := Lib.hid (by rw [List.length_append]; omega)
  have same : Hid (∀ (w' : World), Below w.heap.size w w' → ∀ b o, b < w.heap.size → w'.cell? ⟨b, o, none⟩ = w2.cell? ⟨b, o, none⟩) := Lib.hid (fun w' hb' b o hb => (hb'.cell (p := ⟨b, o, none⟩) hb).trans (HB2.out.cell (p := ⟨b, o, none⟩) hb).symm)
  have sameA : Hid (∀ (w' : World), Below w.heap.size w w' → ∀ a : Addr, a.block < w.heap.size → w'.cell? a = w2.cell? a) := Lib.hid (fun w' hb' a hb => (hb'.cell hb).trans (HB2.out.cell hb).symm)
  have HQ0 := Lib.hid (HB2.out.drew)
  clear hsn0 hsn1 hll0 hll1 HALL hm0 hu hv
  go_wp2_with fail
  go_region_law (first
    | (refine step_append_any rfl _ _ 25 rfl (w.heap.size + 1) 31 i0 _ 4 56 Tryz.underlying25 hi hz0 hz1 hz2 rfl (by decide) (.slice none 0 0) 0 [] rfl (World.ownsRow_nil _ _ _ _) A0 l.length c0 (us.flatMap PlAt.cells) rfl (by rw [plat_len, HUL.out]) HU.out.2.2.1 (fun ad hA j u hj => (HU.out.2.2.2 ad hA j u hj).1) (plat_one us) (by unfold maxLen; omega) (by omega) (by show w.heap.size + 1 ≤ w2.heap.size; omega) ?_; intro v6 w6 hown6 hgr6 hat6; obtain ⟨A6, c6, rfl⟩ := own_form hown6; have HO6 : Hid (w6.ownsRow (w.heap.size + 1) 31 4 (.slice A6 l.length c6) l.length (us.flatMap PlAt.cells)) := Lib.hid (by simpa using hown6); have HB6 := Lib.hid (HQ0.out.grown hgr6 hs2 (by simp [Value.ownBlock])); have HX6 := Lib.hid ((hgr6.block _ hxl (by simp [Value.ownBlock])).trans HX.out); have d13 := (same.out w6 HB6.out b _ hbb1).trans a13; rw [Nat.zero_add]; clear hown6 hgr6 hat6)
    | (refine step_append_any rfl _ _ 25 rfl (w.heap.size + 1) 31 i0 _ 4 56 Tryz.underlying25 hi hz0 hz1 hz2 rfl (by decide) _ l.length (us.flatMap PlAt.cells) rfl HO6.out A1 m.length c1 (vs.flatMap PlAt.cells) rfl (by rw [plat_len, HVL.out]) HV.out.2.2.1 (fun ad hA j u hj => (sameA.out w6 HB6.out _ (HV.out.2.2.2 ad hA j u hj).2).trans (HV.out.2.2.2 ad hA j u hj).1) (plat_one vs) (by unfold maxLen; omega) (by omega) (by have := lt_of_block HX6.out; omega) ?_; intro v7 w7 hown7 hgr7 hat7; obtain ⟨A7, c7, rfl⟩ := own_form hown7; have HO7 : Hid (w7.ownsRow (w.heap.size + 1) 31 4 (.slice A7 (l.length + m.length) c7) (l.length + m.length) ((us ++ vs).flatMap PlAt.cells)) := Lib.hid (by rw [List.flatMap_append]; exact hown7); have HB7 := Lib.hid (HB6.out.grown hgr7 HB6.out.size (fun q e => by have := (HO6.out.lt q e).1; omega)); have HX7 := Lib.hid ((hgr7.block _ (lt_of_block HX6.out) (fun e => by have := (HO6.out.lt _ e.symm).1; omega)).trans HX6.out); have HE7 := Lib.hid (ats_two HU.out.2.1 HV.out.2.1 (same.out w7 HB7.out)); clear hown7 hgr7 hat7)
    | (go_simp; refine (ref11_whole1 (l ++ m) A7 (l.length + m.length) c7 w7 HN.out (by have h9 := lies_row HO7.out HE7.out HB7.out.size; rw [HMP.out] at h9; exact h9) HLEN.out).mono ?_; rintro e w8 ⟨x0, x1, Ay, ny, cy, rfl, hw8, hb8⟩; have HW8 := Lib.hid hw8; have HC8 := Lib.hid hb8; have HB8 := Lib.hid (HB7.out.trans (hb8.mono HB7.out.size)); have hx8 := (hb8.block _ (lt_of_block HX7.out)).trans HX7.out; have HX8 := Lib.hid hx8; obtain ⟨k80, k81, k82, k83, l80, l81, l82, l83⟩ := four_of hx8; clear hw8 hb8 hx8))
  all_goals
    rcases HW8.out with ⟨hm, rfl, rfl, hy⟩ | ⟨hm, rfl, rfl, hy⟩
    · injection hy with hy1 hy2 hy3
      subst hy1 hy2 hy3
      have hr := Lib.hid (show rWhole (l ++ m) = (0, lPl (l ++ m)) by unfold rWhole; rw [if_pos hm])
      clear hm
      go_wp2
      refine bodyPost_ret (fn := Tryz.f17) (v := .tuple #[.agg #[.int .i64 5, .int .i64 0, .string ⟨#[]⟩, .slice _ _ _], .int .i64 0, .string ⟨#[]⟩]) (res3 (p := 4) (q := 5) (r := 6) (ty := 31) (a := ⟨w.heap.size, 0, none⟩) Tryz.results17 rfl (run_loadVar_row (P := Tryz.prog) _ _ _ 31 _ _ _ (blk_set (blk_set (blk_set (blk_set HX8.out 0 (.int .i64 5)) 1 (.int .i64 0)) 2 (.string ⟨#[]⟩)) 3 (.slice _ _ _)) Tryz.underlying31 rfl (by kernel_rfl)) rfl rfl) rfl ?_
      rw [hr.out]
      refine ⟨_, _, by rw [whole_out (l ++ m) _ (l.length + m.length) _ (by simp)], ?_, below_set4 HB8.out _ _ _ _⟩
      have h9 := lies_row4 HO7.out HE7.out (Nat.lt_succ_self _) HB7.out.size HC8.out (.int .i64 5) (.int .i64 0) (.string ⟨#[]⟩) (.slice Ay (l.length + m.length) cy)
      rw [HMP.out] at h9
      exact h9
    · injection hy with hy1 hy2 hy3
      subst hy1 hy2 hy3
      have hr := Lib.hid (show rWhole (l ++ m) = rBad 2 by unfold rWhole; rw [hm]; rfl)
      clear hm
      go_wp2
      refine bodyPost_ret (fn := Tryz.f17) (v := .tuple #[.agg #[.int .i64 0, .int .i64 0, .string ⟨#[]⟩, .slice none 0 0], .int .i64 2, .string ⟨#[]⟩]) (res3 (p := 4) (q := 5) (r := 6) (ty := 31) (a := ⟨w.heap.size, 0, none⟩) Tryz.results17 rfl (run_loadVar_row (P := Tryz.prog) _ _ _ 31 _ _ _ (blk_set (blk_set (blk_set (blk_set HX8.out 0 (.int .i64 0)) 1 (.int .i64 0)) 2 (.string ⟨#[]⟩)) 3 (.slice none 0 0)) Tryz.underlying31 rfl (by kernel_rfl)) rfl rfl) rfl ?_
      rw [hr.out]
      exact ⟨none, 0, rfl, by unfold rBad zPl Pl.list Pls.lies; trivial, below_set4 HB8.out _ _ _ _⟩
set_option maxRecDepth 100000 in
set_option maxHeartbeats 8000000 in
theorem ref11_good_add (p q : Pl) (hall : [p, q].all Pl.mayB = true) (hq0 : p.kind = 5) (A : Option Addr) (c : Nat) (w : World) (hl : Pls.lies w w.heap.size [p, q] A) :
    Calls Tryz.prog 17 #[.string ⟨#[108, 105, 115, 116, 46, 97, 100, 100]⟩, .slice A 2 c] w (ROut (rWhole (p.list ++ [q])) w) := by
  obtain ⟨i0, hi, hz0, hz1, hz2⟩ := info_plain_parts
  have HB := Lib.hid ((Below.refl w.heap.size w).alloc (Nat.le_refl _) (.cells #[.int .i64 0, .int .i64 0, .string ⟨#[]⟩, .slice none 0 0] 31))
  have KM := Lib.hid (ref11_may ln_add [p, q] A c _ (by show 2 * 56 ≤ _; omega) (hl.below HB.out HB.out.size))
  rw [may_add, if_pos (show [p, q].length = 2 from rfl), if_pos hall] at KM
  simp only [List.length_cons, List.length_nil, Nat.zero_add, Nat.reduceAdd] at KM
  unfold ln_add at KM
  have HL := Lib.hid hl
  obtain ⟨b, o, rfl⟩ := hl.head (by simp)
  have HALL := Lib.hid hall
  clear hl hall
  go_enter Tryz.func17, Tryz.ntmps17
  go_wp2_with fail
  refine KM.out.mono ?_
  rintro e w1 ⟨rfl, hb1⟩
  have HX1 := Lib.hid ((hb1.block w.heap.size (by simp)).trans (heap_alloc_new w _))
  have HB1 := Lib.hid (HB.out.trans (hb1.mono HB.out.size))
  have HL1 := Lib.hid (HL.out.below HB1.out (Nat.le_refl _))
  have hk0 := (show p.lies w1 w.heap.size b o by simpa using HL1.out.at_ 0 (by simp)).parts.2.1
  have hk1 := (show q.lies w1 w.heap.size b (o + 4) by simpa using HL1.out.at_ 1 (by simp)).parts.2.1
  have KK := Lib.hid (kinds_add b o c p.kind q.kind w1 hk0 hk1 true (by simp [hq0]))
  clear hb1 KM hk0 hk1
  go_wp2_with fail
  refine KK.out.mono ?_
  rintro e w2 ⟨rfl, hb2⟩
  have HB2 := Lib.hid (HB1.out.trans (hb2.mono HB1.out.size))
  have HL2 := Lib.hid (HL.out.below HB2.out (Nat.le_refl _))
  have hs2 := HB2.out.size
  have hx := (hb2.block w.heap.size (lt_of_block HX1.out)).trans HX1.out
  have HX := Lib.hid hx
  have f0 : ∀ j, w2.cell? ⟨w.heap.size, j, none⟩ = (#[.int .i64 0, .int .i64 0, .string ⟨#[]⟩, .slice none 0 0] : Array Value)[j]? := fun j => by simp [World.cell?, hx]
  have g0 : ∀ j, w2.frozen? ⟨w.heap.size, j, none⟩ = false := fun j => by simp [World.frozen?, hx]
  clear hx
  have hxl := lt_of_block HX.out
  have hsn0 := Lib.hid (show p.lies w2 w.heap.size b o by simpa using HL2.out.at_ 0 (by simp)).sane
  obtain ⟨hbb0, a00, a01, a02, hlen0, A0, c0, a03, hll0⟩ := (show p.lies w2 w.heap.size b o by simpa using HL2.out.at_ 0 (by simp)).parts
  have hsn1 := Lib.hid (show q.lies w2 w.heap.size b (o + 4) by simpa using HL2.out.at_ 1 (by simp)).sane
  obtain ⟨hbb1, a10, a11, a12, hlen1, A1, c1, a13, hll1⟩ := (show q.lies w2 w.heap.size b (o + 4) by simpa using HL2.out.at_ 1 (by simp)).parts
  clear hb2 KK
  have hl0 := hsn0.out.2.2.2
  have hl1 := hsn1.out.2.2.2
  have HLL := Lib.hid hll0
  have HLM := Lib.hid hll1
  have hm0 : [p, q].all Pl.mayB = true := HALL.out
  have hc0 : p.list.length ≤ 65536 ∧ (p.list.length + q.list.length ≤ 200000) := by
    simp only [List.all_cons, List.all_nil, Bool.and_true, Bool.and_eq_true] at hm0
    have b0 := pl_len hm0.1
    have b1 := pl_len hm0.2
    omega
  obtain ⟨hc0, hc1⟩ := hc0
  generalize p.list = l at *
  obtain ⟨us, hu⟩ := atsL HLL.out
  have HU := Lib.hid hu
  have HV : Hid (∀ x ∈ [(⟨q, A1, c1⟩ : PlAt)], x.p.sane ∧ Pls.lies w2 w.heap.size x.p.list x.A) := Lib.hid (fun x hx => by rw [List.mem_singleton.1 hx]; exact ⟨hsn1.out, HLM.out⟩)
  have HUL : Hid (us.length = l.length) := Lib.hid (by rw [← hu.1, List.length_map])
  have HMP : Hid ((us ++ [(⟨q, A1, c1⟩ : PlAt)]).map PlAt.p = l ++ [q]) := Lib.hid (by rw [List.map_append, hu.1]; rfl)
  have HN : Hid (l.length + 1 = (l ++ [q]).length) := Lib.hid (by simp)
  have HLEN : Hid ((l ++ [q]).length * 56 ≤ 140737488351232) := Lib.hid (by rw [List.length_append, List.length_singleton]; omega)
  have same : Hid (∀ (w' : World), Below w.heap.size w w' → ∀ b o, b < w.heap.size → w'.cell? ⟨b, o, none⟩ = w2.cell? ⟨b, o, none⟩) := Lib.hid (fun w' hb' b o hb => (hb'.cell (p := ⟨b, o, none⟩) hb).trans (HB2.out.cell (p := ⟨b, o, none⟩) hb).symm)
  have HQ0 := Lib.hid (HB2.out.drew)
  have HQ1 := Lib.hid ((HB2.out.alloc hs2 (.cells #[.int .i64 q.kind, .int .i64 q.num, .string q.text, .slice A1 q.list.length c1] 31)).drew)
  clear hsn0 hsn1 hll0 hll1 HALL hm0 hu HLL HLM
  go_wp2_with fail
  go_region_law (first
    | (refine step_append_any rfl _ _ 25 rfl (w.heap.size + 1) 31 i0 _ 4 56 Tryz.underlying25 hi hz0 hz1 hz2 rfl (by decide) (.slice none 0 0) 0 [] rfl (World.ownsRow_nil _ _ _ _) A0 l.length c0 (us.flatMap PlAt.cells) rfl (by rw [plat_len, HUL.out]) HU.out.2.2.1 (fun ad hA j u hj => (HU.out.2.2.2 ad hA j u hj).1) (plat_one us) (by unfold maxLen; omega) (by omega) (by show w.heap.size + 1 ≤ w2.heap.size; omega) ?_; intro v6 w6 hown6 hgr6 hat6; obtain ⟨A6, c6, rfl⟩ := own_form hown6; have HO6 : Hid (w6.ownsRow (w.heap.size + 1) 31 4 (.slice A6 l.length c6) l.length (us.flatMap PlAt.cells)) := Lib.hid (by simpa using hown6); have HB6 := Lib.hid (HQ0.out.grown hgr6 hs2 (by simp [Value.ownBlock])); have HX6 := Lib.hid ((hgr6.block _ hxl (by simp [Value.ownBlock])).trans HX.out); have d10 := (same.out w6 HB6.out b _ hbb1).trans a10; have d11 := (same.out w6 HB6.out b _ hbb1).trans a11; have d12 := (same.out w6 HB6.out b _ hbb1).trans a12; have d13 := (same.out w6 HB6.out b _ hbb1).trans a13; rw [Nat.zero_add]; clear hown6 hgr6 hat6)
    | (refine step_append_any rfl _ _ 25 rfl (w.heap.size + 1) 31 i0 _ 4 56 Tryz.underlying25 hi hz0 hz1 hz2 rfl (by decide) (.slice none 0 0) 0 [] rfl (World.ownsRow_nil _ _ _ _) A0 l.length c0 (us.flatMap PlAt.cells) rfl (by rw [plat_len, HUL.out]) HU.out.2.2.1 (old_alloc HU.out.2.2.2 hs2) (plat_one us) (by unfold maxLen; omega) (by omega) (by show _ ≤ (w2.alloc _).heap.size; rw [size_alloc]; omega) ?_; intro v6 w6 hown6 hgr6 hat6; obtain ⟨A6, c6, rfl⟩ := own_form hown6; have HO6 : Hid (w6.ownsRow (w.heap.size + 1) 31 4 (.slice A6 l.length c6) l.length (us.flatMap PlAt.cells)) := Lib.hid (by simpa using hown6); have HB6 := Lib.hid (HQ1.out.grown hgr6 HQ1.out.size (by simp [Value.ownBlock])); have HX6 := Lib.hid ((hgr6.block _ (by show _ < (w2.alloc _).heap.size; rw [size_alloc]; omega) (by simp [Value.ownBlock])).trans ((Below.heap_alloc w2 _ _ hxl).trans HX.out)); have HD6 := Lib.hid (q_kept (w := w2) (w6 := w6) (q := q) (A := A1) (c := c1) (hgr6.block _ (by show _ < (w2.alloc _).heap.size; rw [size_alloc]; omega) (by simp [Value.ownBlock]))); rw [Nat.zero_add]; clear hown6 hgr6 hat6)
    | (refine step_append_any rfl _ _ 25 rfl (w.heap.size + 1) 31 i0 _ 4 56 Tryz.underlying25 hi hz0 hz1 hz2 rfl (by decide) _ l.length (us.flatMap PlAt.cells) rfl (HO6.out.alloc _) (some ⟨w6.heap.size, 0, none⟩) 1 1 (q.cells4 A1 c1) rfl rfl (fun h => by cases h) (q_new w6 q A1 c1) (q_one q A1 c1) (by unfold maxLen; omega) (by omega) (by have := lt_of_block HX6.out; simp; omega) ?_; intro v7 w7 hown7 hgr7 hat7; obtain ⟨A7, c7, rfl⟩ := own_form hown7; have HO7 : Hid (w7.ownsRow (w.heap.size + 1) 31 4 (.slice A7 (l.length + 1) c7) (l.length + 1) ((us ++ [(⟨q, A1, c1⟩ : PlAt)]).flatMap PlAt.cells)) := Lib.hid (by rw [List.flatMap_append]; exact hown7); have HB7 := Lib.hid ((HB6.out.alloc HB6.out.size _).grown hgr7 (HB6.out.alloc HB6.out.size _).size (fun q e => by have := (HO6.out.lt q e).1; omega)); have HX7 := Lib.hid ((hgr7.block _ (by rw [size_alloc]; have := lt_of_block HX6.out; omega) (fun e => by have := (HO6.out.lt _ e.symm).1; omega)).trans ((Below.heap_alloc _ _ _ (lt_of_block HX6.out)).trans HX6.out)); have HE7 := Lib.hid (ats_two HU.out.2.1 HV.out (same.out w7 HB7.out)); clear hown7 hgr7 hat7)
    | (refine step_append_any rfl _ _ 25 rfl (w.heap.size + 1) 31 i0 _ 4 56 Tryz.underlying25 hi hz0 hz1 hz2 rfl (by decide) _ l.length (us.flatMap PlAt.cells) rfl HO6.out (some ⟨w2.heap.size, 0, none⟩) 1 1 (q.cells4 A1 c1) rfl rfl (fun h => by cases h) HD6.out (q_one q A1 c1) (by unfold maxLen; omega) (by omega) (by have := lt_of_block HX6.out; omega) ?_; intro v7 w7 hown7 hgr7 hat7; obtain ⟨A7, c7, rfl⟩ := own_form hown7; have HO7 : Hid (w7.ownsRow (w.heap.size + 1) 31 4 (.slice A7 (l.length + 1) c7) (l.length + 1) ((us ++ [(⟨q, A1, c1⟩ : PlAt)]).flatMap PlAt.cells)) := Lib.hid (by rw [List.flatMap_append]; exact hown7); have HB7 := Lib.hid (HB6.out.grown hgr7 HB6.out.size (fun q e => by have := (HO6.out.lt q e).1; omega)); have HX7 := Lib.hid ((hgr7.block _ (lt_of_block HX6.out) (fun e => by have := (HO6.out.lt _ e.symm).1; omega)).trans HX6.out); have HE7 := Lib.hid (ats_two HU.out.2.1 HV.out (same.out w7 HB7.out)); clear hown7 hgr7 hat7)
    | (go_simp; refine (ref11_whole1 (l ++ [q]) A7 (l.length + 1) c7 w7 HN.out (by have h9 := lies_row HO7.out HE7.out HB7.out.size; rw [HMP.out] at h9; exact h9) HLEN.out).mono ?_; rintro e w8 ⟨x0, x1, Ay, ny, cy, rfl, hw8, hb8⟩; have HW8 := Lib.hid hw8; have HC8 := Lib.hid hb8; have HB8 := Lib.hid (HB7.out.trans (hb8.mono HB7.out.size)); have hx8 := (hb8.block _ (lt_of_block HX7.out)).trans HX7.out; have HX8 := Lib.hid hx8; obtain ⟨k80, k81, k82, k83, l80, l81, l82, l83⟩ := four_of hx8; clear hw8 hb8 hx8))
  all_goals
    rcases HW8.out with ⟨hm, rfl, rfl, hy⟩ | ⟨hm, rfl, rfl, hy⟩
    · injection hy with hy1 hy2 hy3
      subst hy1 hy2 hy3
      have hr := Lib.hid (show rWhole (l ++ [q]) = (0, lPl (l ++ [q])) by unfold rWhole; rw [if_pos hm])
      clear hm
      go_wp2
      refine bodyPost_ret (fn := Tryz.f17) (v := .tuple #[.agg #[.int .i64 5, .int .i64 0, .string ⟨#[]⟩, .slice _ _ _], .int .i64 0, .string ⟨#[]⟩]) (res3 (p := 4) (q := 5) (r := 6) (ty := 31) (a := ⟨w.heap.size, 0, none⟩) Tryz.results17 rfl (run_loadVar_row (P := Tryz.prog) _ _ _ 31 _ _ _ (blk_set (blk_set (blk_set (blk_set HX8.out 0 (.int .i64 5)) 1 (.int .i64 0)) 2 (.string ⟨#[]⟩)) 3 (.slice _ _ _)) Tryz.underlying31 rfl (by kernel_rfl)) rfl rfl) rfl ?_
      rw [hr.out]
      refine ⟨_, _, by rw [whole_out (l ++ [q]) _ (l.length + 1) _ (by simp)], ?_, below_set4 HB8.out _ _ _ _⟩
      have h9 := lies_row4 HO7.out HE7.out (Nat.lt_succ_self _) HB7.out.size HC8.out (.int .i64 5) (.int .i64 0) (.string ⟨#[]⟩) (.slice Ay (l.length + 1) cy)
      rw [HMP.out] at h9
      exact h9
    · injection hy with hy1 hy2 hy3
      subst hy1 hy2 hy3
      have hr := Lib.hid (show rWhole (l ++ [q]) = rBad 2 by unfold rWhole; rw [hm]; rfl)
      clear hm
      go_wp2
      refine bodyPost_ret (fn := Tryz.f17) (v := .tuple #[.agg #[.int .i64 0, .int .i64 0, .string ⟨#[]⟩, .slice none 0 0], .int .i64 2, .string ⟨#[]⟩]) (res3 (p := 4) (q := 5) (r := 6) (ty := 31) (a := ⟨w.heap.size, 0, none⟩) Tryz.results17 rfl (run_loadVar_row (P := Tryz.prog) _ _ _ 31 _ _ _ (blk_set (blk_set (blk_set (blk_set HX8.out 0 (.int .i64 0)) 1 (.int .i64 0)) 2 (.string ⟨#[]⟩)) 3 (.slice none 0 0)) Tryz.underlying31 rfl (by kernel_rfl)) rfl rfl) rfl ?_
      rw [hr.out]
      exact ⟨none, 0, rfl, by unfold rBad zPl Pl.list Pls.lies; trivial, below_set4 HB8.out _ _ _ _⟩
end Go.Proofs.YtcldbjgikkfnbaaGreatDoor
