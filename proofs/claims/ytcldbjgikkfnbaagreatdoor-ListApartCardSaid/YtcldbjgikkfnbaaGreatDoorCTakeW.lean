/-
  (*espalierlaw11.Book).Take of any value that was answered: its lists are kept and bear their marks. Walks. Conditions: the value lies in rows of its own, has at most 65,536 values.
-/
import Derived.Test.YtcldbjgikkfnbaaGreatDoorCBookP
import Derived.Test.YtcldbjgikkfnbaaGreatDoorCPlSameL
import Derived.Test.YtcldbjgikkfnbaaGreatDoorCListOps
import Derived.Test.YtcldbjgikkfnbaaGreatDoorCZvalOf
import Derived.Test.YtcldbjgikkfnbaaGreatDoorCFullW
import Derived.Deep.CutRange
namespace Go.Proofs.YtcldbjgikkfnbaaGreatDoor
open Go.RowKit
set_option linter.unusedVariables false

def TakeOk (x : Vl) : Prop := ∀ (S D : Nat → Prop) (B Q : Nat) (bv : Value) (es : List Ent) (v : Value) (w : World), x.sep w S v → (∀ b, S b → b < w.heap.size) → (∀ b, S b → B ≤ b) → x.count ≤ 65536 → BookAt w B Q bv es D → (∀ b, S b → ¬ D b) → es.length + x.count ≤ 10000000 →
  Calls Tryz.prog 19 #[.pointer (some ⟨Q, 0, none⟩), v] w (TakePost S D B Q es x.count w)
theorem take_miss (T : TypeId) (y : Value) (h : T ≠ 47) (n Q : Nat) (S D : Nat → Prop) (B : Nat) (bv : Value) (es : List Ent) (w : World) (hB : BookAt w B Q bv es D) (hS : ∀ b, S b → b < w.heap.size) : Calls Tryz.prog 19 #[.pointer (some ⟨Q, 0, none⟩), .iface T y] w (TakePost S D B Q es n w) := by
  have a1 := pf_no_List T y h
  have HB := Lib.hid hB
  have HS := Lib.hid hS
  clear hB hS
  go_enter Tryz.func19, Tryz.ntmps19
  go_wp2
  go_end0
  exact take_nothing HB.out HS.out
theorem run_assert_nil {P : Program} {x t : TypeId} {d : TypeDesc} {z : Value} (hu : P.underlying t = some d) (hd : (match d with | .interface _ => false | _ => true) = true) (hz : ∀ w, (zeroValue t).run P w = .ok z w) (w : World) :
    (Instr.typeAssert .nilIface x t true).run P w = .ok (.tuple #[z, .bool false]) w := by
  unfold Instr.typeAssert
  cases d <;> simp_all [run_underlying hu]
theorem take_nil (n Q : Nat) (S D : Nat → Prop) (B : Nat) (bv : Value) (es : List Ent) (w : World) (hB : BookAt w B Q bv es D) (hS : ∀ b, S b → b < w.heap.size) : Calls Tryz.prog 19 #[.pointer (some ⟨Q, 0, none⟩), .nilIface] w (TakePost S D B Q es n w) := by
  have a1 : ∀ w : World, (Instr.typeAssert .nilIface 35 47 true).run Tryz.prog w = .ok (.tuple #[.slice none 0 0, .bool false]) w := run_assert_nil Tryz.underlying47 rfl (fun w => by kernel_rfl)
  have HB := Lib.hid hB
  have HS := Lib.hid hS
  clear hB hS
  go_enter Tryz.func19, Tryz.ntmps19
  go_wp2
  go_end0
  exact take_nothing HB.out HS.out
/-- The list of lists takes one more. -/
theorem book_more {B Q : Nat} {w w2 : World} {v v' : Value} {es : List Ent} (e : Ent) {o : Obj} (h : BookRow w B Q v es) (hgr : (w.alloc o).grownBy w2 v.ownBlock) (hown : w2.ownsRow B 47 1 v' (es.length + 1) (es.map Ent.v ++ [e.v])) (hB : B ≤ w.heap.size) (hat : v'.ownBlock = v.ownBlock ∨ v'.ownBlock = some (w.heap.size + 1)) (S : Nat → Prop) :
    BookRow (w2.setCell ⟨Q, 0, none⟩ v') B Q v' (es ++ [e]) ∧ SavT S w (w2.setCell ⟨Q, 0, none⟩ v') ∧ Below B w (w2.setCell ⟨Q, 0, none⟩ v') ∧ w2.cell? ⟨Q, 0, none⟩ = some v ∧ w2.frozen? ⟨Q, 0, none⟩ = false ∧ (∀ g, isRow w g → (w2.setCell ⟨Q, 0, none⟩ v').heap[g]? = w.heap[g]?) := by
  have hn := h.notRow
  have hQ := lt_of_block h.blk
  have hsz := hgr.size
  rw [size_alloc] at hsz
  have hvQ : v.ownBlock ≠ some Q := fun e => by
    rcases h.row.2 with ⟨e1, _⟩ | ⟨g', cap, cur', e1, _, h1, _⟩
    · rw [e1] at e; cases e
    · rw [e1] at e; injection e with e
      have e' : g' = Q := e
      subst e'
      rw [h.blk] at h1
      injection h1 with h1
      injection h1 with _ h1 _
      exact absurd h1 (by decide)
  have blk : ∀ b, b < w.heap.size → v.ownBlock ≠ some b → w2.heap[b]? = w.heap[b]? := fun b hb hne => (hgr.block b (by rw [size_alloc]; omega) (Ne.symm hne)).trans (Below.heap_alloc _ _ _ hb)
  have hq2 := (blk Q hQ hvQ).trans h.blk
  have hv'Q : v'.ownBlock ≠ some Q := fun e => by
    rcases hat with h1 | h1
    · exact hvQ (h1 ▸ e)
    · rw [h1] at e; injection e with e; omega
  have hrows : ∀ g, isRow w g → (w2.setCell ⟨Q, 0, none⟩ v').heap[g]? = w.heap[g]? := fun g hg => by
    rw [Below.heap_setCell _ _ _ _ (show g ≠ Q from fun e => hn.1 (e ▸ hg))]
    exact blk g hg.lt (fun e => hn.2 g e hg)
  refine ⟨⟨blk_set hq2 0 v', h.base, ?_⟩, ⟨hgr.os, hgr.tape, hgr.output, by rw [size_set]; omega, fun k hk _ hr => hrows k hr⟩, ⟨hgr.os, hgr.tape, hgr.output, by rw [size_set]; omega, fun k hk => ?_⟩, ?_, ?_, hrows⟩
  · rw [List.length_append, List.map_append]
    exact own_block hown (fun g hg => Below.heap_setCell _ _ _ _ (show g ≠ Q from fun e => hv'Q (e ▸ hg)))
  · rw [Below.heap_setCell _ _ _ _ (show k ≠ Q by have := h.base; omega)]
    exact blk k (by omega) (fun e => by have := (h.row.lt k e).1; omega)
  · simp [World.cell?, hq2]
  · simp [World.frozen?, hq2]
theorem info_list : (Tryz.prog.info? 47).map (fun i => (i.zero, i.size, i.bytes)) = some (some (.slice none 0 0), 1, 24) := by kernel_rfl
/-- From the elements to the marks. -/
theorem mark_start {S D : Nat → Prop} {B Q g c : Nat} {w wr w3 : World} {es es' : List Ent} {l : List Vl} {us : List Value} {v v' : Value} {R : Nat → Prop} (h : TakeI S D B Q g c w es l us l.length wr v es' R) (hown : w.ownsRow 0 35 1 (.slice (some ⟨g, 0, none⟩) l.length c) l.length us) (hg : S g) (hSD : ∀ b, S b → ¬ D b)
    (hrow : BookRow w3 B Q v' ((es ++ es') ++ [⟨some ⟨g, 0, none⟩, l.length, c⟩])) (hsav : SavT S wr w3) (hbel : Below B wr w3) (hrows : ∀ b, isRow wr b → w3.heap[b]? = wr.heap[b]?) :
    MarkI S D B Q g c (es ++ es').length w (es ++ es') (fun b => D b ∨ (S b ∧ b ≠ g ∧ ¬ R b ∧ isRow wr b)) v' ⟨some ⟨g, 0, none⟩, l.length, c⟩ 0 w3 := by
  have hgr : isRow w g := own_isRow hown rfl
  have hgb : wr.heap[g]? = w.heap[g]? := h.sav.block g hgr.lt (fun h => h.2 rfl) hgr
  obtain ⟨cur, h1, h2, _⟩ := row_is hown
  have hgr2 : isRow wr g := hgr.keep hgb
  refine ⟨⟨cur, (hrows g hgr2).trans (hgb.trans h1), h2, fun i hi => absurd hi (by omega)⟩, hrow, h.book.marks.keep (fun b hb => hrows b (h.book.rows b hb).2) (fun _ h => h), fun b hb => ⟨Nat.lt_of_lt_of_le (h.book.rows b hb).1 hsav.size, (h.book.rows b hb).2.keep (hrows b (h.book.rows b hb).2)⟩, fun b hb => ?_, (h.sav.mono fun b hb => hb.1).trans hsav, h.bel.trans hbel⟩
  rcases hb with hb | hb
  · exact ⟨fun e => hSD g hg (e ▸ hb), .inl hb⟩
  · exact ⟨hb.2.1, .inr hb.1⟩
/-- .. with what the end asks. -/
structure MarkR (S D : Nat → Prop) (B Q g c J : Nat) (w : World) (es : List Ent) (e : Ent) (k : Nat) (wr : World) : Prop where
  mar : ∃ D1 v, MarkI S D B Q g c J w es D1 v e k wr
  rows : Rows_ wr D
  base : B ≤ wr.heap.size
theorem MarkR.step {S D : Nat → Prop} {B Q g c J k k' : Nat} {w wr w' : World} {es : List Ent} {e : Ent} (h : MarkR S D B Q g c J w es e k wr) (hS : S g) (hBg : B ≤ g) (hSD : ∀ b, S b → ¬ D b)
    (hg : wr.grownBy w' (some g)) (hblk : ∃ cur : Array Value, w'.heap[g]? = some (.cells cur 35 (0, 0)) ∧ cur.size = c ∧ ∀ i, i < k' → cur[i]? = some (mk_ J)) : MarkR S D B Q g c J w es e k' w' := by
  obtain ⟨D1, v, hm⟩ := h.mar
  refine ⟨⟨D1, v, hm.step hS hBg hg hblk h.base⟩, fun b hb => ?_, Nat.le_trans h.base hg.size⟩
  have h1 := h.rows b hb
  exact ⟨Nat.lt_of_lt_of_le h1.1 hg.size, h1.2.keep (hg.block b h1.1 (fun e => by injection e with e; subst e; exact hSD _ hS hb))⟩
theorem MarkR.blk {S D : Nat → Prop} {B Q g c J k : Nat} {w wr : World} {es : List Ent} {e : Ent} (h : MarkR S D B Q g c J w es e k wr) : ∃ cur : Array Value, wr.heap[g]? = some (.cells cur 35 (0, 0)) ∧ cur.size = c ∧ ∀ i, i < k → cur[i]? = some (mk_ J) := by
  obtain ⟨_, _, hm⟩ := h.mar
  exact hm.blk
theorem set_grown (w : World) (g k : Nat) (v : Value) : w.grownBy (w.setCell ⟨g, k, none⟩ v) (some g) :=
  ⟨rfl, rfl, rfl, by rw [size_set]; exact Nat.le_refl _, fun b _ hne => Below.heap_setCell _ _ _ _ (fun e => hne (by rw [e]))⟩
theorem alloc_grown {w w' : World} {o : Obj} {g : Nat} (h : (w.alloc o).grownBy w' (some g)) : w.grownBy w' (some g) :=
  ⟨h.os, h.tape, h.output, by have := h.size; rw [size_alloc] at this; omega, fun b hb hne => (h.block b (by rw [size_alloc]; omega) hne).trans (Below.heap_alloc _ _ _ hb)⟩
set_option maxRecDepth 100000 in
set_option maxHeartbeats 8000000 in
theorem take_row (l : List Vl) (ih : ∀ (j : Nat) (h : j < l.length), TakeOk l[j]) (g c : Nat) (us : List Value) (S D R : Nat → Prop) (B Q : Nat) (bv : Value) (es : List Ent) (w : World) (h0 : TakeI S D B Q g c w es l us 0 w bv [] R)
    (hown : w.ownsRow 0 35 1 (.slice (some ⟨g, 0, none⟩) l.length c) l.length us) (hS : ∀ b, S b → b < w.heap.size) (hSB : ∀ b, S b → B ≤ b) (hSD : ∀ b, S b → ¬ D b) (hDr : Rows_ w D) (hg : S g) (hc : (Vl.list l).count ≤ 65536) (hes : es.length + (Vl.list l).count ≤ 10000000) :
    Calls Tryz.prog 19 #[.pointer (some ⟨Q, 0, none⟩), .iface 47 (.slice (some ⟨g, 0, none⟩) l.length c)] w (TakePost S D B Q es (Vl.list l).count w) := by
  obtain ⟨i0, hi, hz0, hz1, hz2⟩ := info_parts info_value
  have a1 := pf_as_List (.slice (some ⟨g, 0, none⟩) l.length c)
  have hll := Vls.len_count l
  have hcl : (Vl.list l).count = 1 + Vls.count l := rfl
  have hlen : l.length ≤ 65536 := by omega
  obtain ⟨hlc, hcm0⟩ : l.length ≤ c ∧ c ≤ maxLen := by
    obtain ⟨cur, _, _, h, h'⟩ := row_is hown
    exact ⟨h, h'⟩
  have hcm : c ≤ 9223372036854775807 := by unfold maxLen at hcm0; omega
  have IH := Lib.hid ih
  have H0 := Lib.hid h0
  have HS := Lib.hid hS
  have HSB := Lib.hid hSB
  have HSD := Lib.hid hSD
  have HDR := Lib.hid hDr
  have HG := Lib.hid hg
  have HOW := Lib.hid hown
  have HC : Hid (Vls.count l ≤ 65535) := Lib.hid (by omega)
  have HES : Hid (es.length + (1 + Vls.count l) ≤ 10000000) := Lib.hid (by omega)
  have HCM := Lib.hid hcm0
  have HCL := Lib.hid hcl
  clear ih h0 hS hSB hSD hDr hg hc hll hcl hes hown hcm0
  go_enter Tryz.func19, Tryz.ntmps19
  go_wp2
  clear a1
  go_loopw [6] (fun s6 wr => ∃ (k : Nat) (v : Value) (es' : List Ent) (R : Nat → Prop), k ≤ l.length ∧ s6 = .int .i64 (k : Int) ∧ TakeI S D B Q g c w es l us k wr v es' R) (fun s6 _ => l.length - (intOf s6).toNat)
  case atStart => exact ⟨0, bv, [], R, Nat.zero_le _, rfl, H0.out⟩
  case round =>
    obtain ⟨k, v, es', R', hk, rfl, hI⟩ := hrel
    have HI := Lib.hid hI
    clear hI
    by_cases hlt : k < l.length
    · obtain ⟨u, S1, D1, hcu, hsep, hS1, hS1S, hB1, hSD1, hnext⟩ := HI.out.head hlt HS.out HSD.out HOW.out
      have HN := Lib.hid hnext
      have hcnt := Vls.count_take l k hlt
      have hcle := Vls.count_le l (k + 1)
      have KF := Lib.hid (IH.out k hlt S1 D1 B Q v (es ++ es') u wr hsep hS1 (fun b hb => HSB.out b (hS1S b hb)) (by have := HC.out; omega) hB1 hSD1 (by rw [List.length_append]; have := HES.out; have := HI.out.len; omega))
      obtain ⟨vt, vx, rfl⟩ := hsep.iface
      clear hnext hsep hS1 hS1S hB1 hSD1 hcnt hcle
      go_wp2_with fail
      refine KF.out.mono ?_
      intro e w2 hpost
      obtain ⟨rfl, v2, es2, R2, hI2⟩ := HN.out e w2 hpost
      have HI2 := Lib.hid hI2
      clear hpost hI2 hcu KF HN
      go_wp2
      go_roundw
      case rel => exact ⟨k + 1, v2, es2, R2, by omega, by go_num, HI2.out⟩
      case measure => simp [intOf]; omega
    · have hkl : k = l.length := by omega
      subst hkl
      obtain ⟨i1, hj, hy0, hy1, hy2⟩ := info_parts info_list
      have HBK := Lib.hid HI.out.book
      obtain ⟨A5, c5, hv5⟩ := own_form HBK.out.row.row
      subst hv5
      have q0 : wr.cell? ⟨Q, 0, none⟩ = some (.slice A5 (es ++ es').length c5) := by simp [World.cell?, HBK.out.row.blk]
      have hJ : (es ++ es').length ≤ 10000000 := by rw [List.length_append]; have := HES.out; have := HI.out.len; have := Vls.count_le l l.length; omega
      have hBs : B ≤ wr.heap.size := Nat.le_trans HBK.out.row.base (Nat.le_of_lt (lt_of_block HBK.out.row.blk))
      have HO1 := Lib.hid (HBK.out.row.row.alloc (.cells #[.slice (some ⟨g, 0, none⟩) l.length c] 47))
      generalize hE : es ++ es' = E at *
      have HE := Lib.hid hE
      clear hE
      go_wp2_with (at_builtin; refine wpList_append_own_at _ rfl _ _ 54 rfl B 47 i1 (.slice none 0 0) 1 24 Tryz.underlying54 hj hy0 hy1 hy2 rfl (by decide) _ E.length (E.map Ent.v) rfl HO1.out ⟨wr.heap.size, 0, none⟩ 1 1 [.slice (some ⟨g, 0, none⟩) l.length c] rfl rfl (World.news_of_block (heap_alloc_new _ _)) (by intro u hu; simp at hu; subst hu; rfl) (by unfold maxLen; omega) (by omega) (by rw [size_alloc]; omega) ?_)
      intro v' w2 hown2 hgr2 _ hat2
      obtain ⟨g6, c6, rfl⟩ := own_some hown2
      obtain ⟨hr3, hs3, hb3, q2, f2, hrows3⟩ := book_more ⟨some ⟨g, 0, none⟩, l.length, c⟩ HBK.out.row hgr2 hown2 hBs hat2 S
      have HR3 := Lib.hid hr3
      have HS3 := Lib.hid hs3
      have HB3 := Lib.hid hb3
      have HW3 := Lib.hid hrows3
      clear hr3 hs3 hb3 hrows3 hown2 hgr2 hat2 q0 HO1
      go_upto_region 7 with fail
      have q3 : (w2.setCell ⟨Q, 0, none⟩ (.slice (some ⟨g6, 0, none⟩) (E.length + 1) c6)).cell? ⟨Q, 0, none⟩ = some (.slice (some ⟨g6, 0, none⟩) (E.length + 1) c6) := by simp [World.cell?, HR3.out.blk]
      have HM0 := Lib.hid (mark_start (es := es) (es' := es') HI.out HOW.out HG.out HSD.out (by rw [HE.out]; exact HR3.out) HS3.out HB3.out HW3.out)
      have hB3 : B ≤ (w2.setCell ⟨Q, 0, none⟩ (.slice (some ⟨g6, 0, none⟩) (E.length + 1) c6)).heap.size := Nat.le_trans hBs HS3.out.size
      have HD1 : Hid (Rows_ (w2.setCell ⟨Q, 0, none⟩ (.slice (some ⟨g6, 0, none⟩) (E.length + 1) c6)) D) := Lib.hid (fun b hb => by
        have h1 := HI.out.book.rows b (.inl hb)
        exact ⟨Nat.lt_of_lt_of_le h1.1 HS3.out.size, h1.2.keep (HW3.out b h1.2)⟩)
      have HLN : Hid (es'.length + 1 ≤ (Vl.list l).count) := Lib.hid (by have := HI.out.len; rw [List.take_length] at this; have := HCL.out; omega)
      rw [HE.out] at HM0
      generalize w2.setCell ⟨Q, 0, none⟩ (.slice (some ⟨g6, 0, none⟩) (E.length + 1) c6) = w3 at *
      clear HR3 HS3 HB3 HW3 q2 f2 hBs
      go_cut [7] from 17 to 70 (fun s7 wx => ∃ mj : Int, s7 = .int .i64 mj ∧ mj = -1000001 - (E.length : Int) ∧ wx = w3)
      case first =>
        go_wp2
        go_meet
        exact ⟨_, by go_num, rfl, rfl⟩
      case rest =>
      obtain ⟨mj, rfl, hmj, hwx⟩ := hcut
      have HMJ : Hid (Value.iface 43 (.int .i64 mj) = mk_ E.length) := Lib.hid (by rw [hmj]; rfl)
      have hmr : -20000000 ≤ mj ∧ mj ≤ 0 := by omega
      have HWX := Lib.hid hwx
      have HM1 : Hid (MarkR S D B Q g c E.length w E ⟨some ⟨g, 0, none⟩, l.length, c⟩ 0 wc) := Lib.hid (by rw [HWX.out]; exact ⟨⟨_, _, HM0.out⟩, HD1.out, hB3⟩)
      clear hmj hwx HM0 q3 hB3 HD1 HWX
      have HGB := Lib.hid (HSB.out g HG.out)
      go_wp2
      go_loopw [8] (fun s8 wr => ∃ k : Nat, k ≤ l.length ∧ s8 = .int .i64 (k : Int) ∧ MarkR S D B Q g c E.length w E ⟨some ⟨g, 0, none⟩, l.length, c⟩ k wr) (fun s8 _ => l.length - (intOf s8).toNat)
      case atStart => exact ⟨0, Nat.zero_le _, rfl, HM1.out⟩
      case round =>
        obtain ⟨k, hk, rfl, hm⟩ := hrel
        have HM := Lib.hid hm
        clear hm
        by_cases hlt : k < l.length
        · obtain ⟨cur, hb, hsz, hmk⟩ := HM.out.blk
          have HMK := Lib.hid hmk
          have HBB := Lib.hid hb
          obtain ⟨u0, hu0⟩ : ∃ u, wr.cell? ⟨g, k, none⟩ = some u := ⟨cur[k]'(by omega), by simp [World.cell?, hb, show k < cur.size by omega]⟩
          have hf0 : wr.frozen? ⟨g, k, none⟩ = false := by simp [World.frozen?, hb]
          have HN := Lib.hid (HM.out.step (k' := k + 1) HG.out HGB.out HSD.out (set_grown wr g k (.iface 43 (.int .i64 mj))) ⟨_, blk_set hb k (.iface 43 (.int .i64 mj)), by simp [hsz], fun i hi => by
            by_cases hik : i = k
            · subst hik
              rw [HMJ.out]
              simp [show i < cur.size by omega]
            · rw [Array.getElem?_setIfInBounds_ne (by omega)]
              exact HMK.out i (by omega)⟩)
          clear hb hsz hmk
          go_wp2
          go_roundw
          case rel => exact ⟨k + 1, by omega, by go_num, HN.out⟩
          case measure => simp [intOf]; omega
        · have hkl : k = l.length := by omega
          subst hkl
          go_upto_region 12 with fail
          go_cut [9] from 17 to 70 (fun s9 wx => ∃ N : Nat, s9 = .int .i64 (N : Int) ∧ l.length ≤ N ∧ N ≤ c ∧ N ≤ l.length + 2000 ∧ N = min c (l.length + 2000) ∧ wx = wr)
          case first =>
            go_wp2
            all_goals
              go_meet
              first
                | exact ⟨c, rfl, by omega, by omega, by omega, by omega, rfl⟩
                | exact ⟨l.length + 2000, by go_num, by omega, by omega, by omega, by omega, rfl⟩
          case rest =>
          obtain ⟨N, rfl, hN0, hN1, hN2, hN3, hwx⟩ := hcut
          have HN3 := Lib.hid hN3
          have HWX := Lib.hid hwx
          have HM2 : Hid (MarkR S D B Q g c E.length w E ⟨some ⟨g, 0, none⟩, l.length, c⟩ l.length wc) := Lib.hid (by rw [HWX.out]; exact HM.out)
          clear hN3 hwx HM HWX
          go_wp2
          go_loopw [4] (fun s4 wr => ∃ k : Nat, k ≤ N ∧ s4 = .slice (some ⟨g, 0, none⟩) k c ∧ MarkR S D B Q g c E.length w E ⟨some ⟨g, 0, none⟩, l.length, c⟩ k wr) (fun s4 _ => N - lenV s4)
          case atStart => exact ⟨l.length, hN0, rfl, HM2.out⟩
          case round =>
            obtain ⟨k, hk, rfl, hm⟩ := hrel
            have HM := Lib.hid hm
            clear hm
            by_cases hlt : k < N
            · obtain ⟨cur, hb, hsz, hmk⟩ := HM.out.blk
              have HMK := Lib.hid hmk
              have hb1 := (Below.heap_alloc wr (.cells #[.iface 43 (.int .i64 mj)] 35) g (lt_of_block hb)).trans hb
              have HB1 := Lib.hid hb1
              clear hmk hb hb1
              go_wp2_with (at_builtin; refine wpList_append_one rfl _ _ 47 rfl 35 i0 Tryz.underlying47 hi hz1 g k c cur HB1.out hsz rfl ⟨wr.heap.size, 0, none⟩ 1 (.iface 43 (.int .i64 mj)) rfl (by simp [Addr.add]) rfl (by omega) ?_)
              intro w' cur' e1 e2 e3 e4 e5
              have HN := Lib.hid (HM.out.step (k' := k + 1) HG.out HGB.out HSD.out (alloc_grown e5) ⟨cur', e1, e2, fun i hi => by
                by_cases hik : i = k
                · subst hik
                  rw [e4, HMJ.out]
                · rw [e3 i (by omega)]
                  exact HMK.out i (by omega)⟩)
              clear e1 e2 e3 e4 e5 hsz
              go_wp2
              go_roundw
              case rel => exact ⟨k + 1, by omega, rfl, HN.out⟩
              case measure => simp [lenV]; omega
            · have hkN : k = N := by omega
              subst hkN
              go_wp2
              go_end0
              obtain ⟨D1, v1, hm⟩ := HM.out.mar
              have hN := HN3.out
              subst hN
              have hE := HE.out
              subst hE
              exact hm.done rfl HG.out (fun b hb => Nat.lt_of_lt_of_le (HS.out b hb) hm.sav.size) HM.out.rows hlen hlc HCM.out HLN.out
theorem TakeI.start {S D : Nat → Prop} {B Q g c : Nat} {w : World} {es : List Ent} {l : List Vl} {us : List Value} {v : Value} (hB : BookAt w B Q v es D) (hSD : ∀ b, S b → ¬ D b) (hsep : Vls.sep w l (fun b => S b ∧ b ≠ g) us) : TakeI S D B Q g c w es l us 0 w v [] (fun b => S b ∧ b ≠ g) := by
  refine ⟨⟨by rw [List.append_nil]; exact hB.row, by rw [List.append_nil]; exact hB.marks.keep (fun _ _ => rfl) (fun b hb => .inl hb), fun b hb => ?_⟩, Nat.zero_le _, SavT.refl _ _, Below.refl _ _, by rw [List.drop_zero, List.drop_zero]; exact hsep, fun b hb => hb⟩
  rcases hb with hb | ⟨h1, h2, h3, h4⟩
  · exact hB.rows b hb
  · exact absurd ⟨h1, h2⟩ h3
theorem take_none (S D : Nat → Prop) (B Q : Nat) (bv : Value) (es : List Ent) (w : World) (hB : BookAt w B Q bv es D) (hS : ∀ b, S b → b < w.heap.size) (hes : es.length ≤ 10000000) (n : Nat) (hn : 1 ≤ n) :
    Calls Tryz.prog 19 #[.pointer (some ⟨Q, 0, none⟩), .iface 47 (.slice none 0 0)] w (TakePost S D B Q es n w) := by
  obtain ⟨i1, hj, hy0, hy1, hy2⟩ := info_parts info_list
  have a1 := pf_as_List (.slice none 0 0)
  have HBK := Lib.hid hB
  have HS := Lib.hid hS
  obtain ⟨A5, c5, hv5⟩ := own_form HBK.out.row.row
  subst hv5
  have q0 : w.cell? ⟨Q, 0, none⟩ = some (.slice A5 es.length c5) := by simp [World.cell?, HBK.out.row.blk]
  have hBs : B ≤ w.heap.size := Nat.le_trans HBK.out.row.base (Nat.le_of_lt (lt_of_block HBK.out.row.blk))
  have HO1 := Lib.hid (HBK.out.row.row.alloc (.cells #[.slice none 0 0] 47))
  clear hB hS
  go_enter Tryz.func19, Tryz.ntmps19
  go_wp2
  refine wp_loop_rounds 1 ?_
  rw [rounds_succ]
  go_wp2_with (at_builtin; refine wpList_append_own_at _ rfl _ _ 54 rfl B 47 i1 (.slice none 0 0) 1 24 Tryz.underlying54 hj hy0 hy1 hy2 rfl (by decide) _ es.length (es.map Ent.v) rfl HO1.out ⟨w.heap.size, 0, none⟩ 1 1 [.slice none 0 0] rfl rfl (World.news_of_block (heap_alloc_new _ _)) (by intro u hu; simp at hu; subst hu; rfl) (by unfold maxLen; omega) (by omega) (by rw [size_alloc]; omega) ?_)
  intro v' w2 hown2 hgr2 _ hat2
  obtain ⟨g6, c6, rfl⟩ := own_some hown2
  obtain ⟨hr3, hs3, hb3, q2, f2, hrows3⟩ := book_more ⟨none, 0, 0⟩ HBK.out.row hgr2 hown2 hBs hat2 S
  have HR3 := Lib.hid hr3
  have HS3 := Lib.hid hs3
  have HB3 := Lib.hid hb3
  have HW3 := Lib.hid hrows3
  clear hr3 hs3 hb3 hrows3 hown2 hgr2 hat2 q0 HO1
  go_upto_region 7 with fail
  have q3 : (w2.setCell ⟨Q, 0, none⟩ (.slice (some ⟨g6, 0, none⟩) (es.length + 1) c6)).cell? ⟨Q, 0, none⟩ = some (.slice (some ⟨g6, 0, none⟩) (es.length + 1) c6) := by simp [World.cell?, HR3.out.blk]
  generalize w2.setCell ⟨Q, 0, none⟩ (.slice (some ⟨g6, 0, none⟩) (es.length + 1) c6) = w3 at *
  clear q2 f2
  go_wp2
  refine wp_loop_rounds 1 ?_
  rw [rounds_succ]
  go_wp2
  refine wp_loop_rounds 1 ?_
  rw [rounds_succ]
  go_wp2
  go_end0
  refine ⟨rfl, _, [⟨none, 0, 0⟩], ⟨HR3.out, ?_, fun b hb => ?_⟩, by simpa using hn, HS3.out, HB3.out⟩
  · refine BookMarks.snoc (HBK.out.marks.keep (fun b hb => HW3.out b (HBK.out.rows b hb).2) (fun b hb => .inl hb)) ⟨.inl ⟨rfl, rfl, rfl⟩, Nat.zero_le _, Nat.zero_le _, Nat.zero_le _⟩
  · rcases hb with hb | hb
    · have h1 := HBK.out.rows b hb
      exact ⟨Nat.lt_of_lt_of_le h1.1 HS3.out.size, h1.2.keep (HW3.out b h1.2)⟩
    · exact ⟨Nat.lt_of_lt_of_le (HS.out b hb.1) HS3.out.size, hb.2⟩
theorem take_list (l : List Vl) (ih : ∀ (j : Nat) (h : j < l.length), TakeOk l[j]) : TakeOk (.list l) := by
  intro S D B Q bv es v w hv hS hSB hc hB hSD hes
  unfold Vl.sep at hv
  obtain ⟨A, c, us, rfl, hown, hg, hsep⟩ := hv
  rcases hown.2 with ⟨e, h0⟩ | ⟨g, cap, cur, e, _, hb, hnc, hcm, hsz, htk⟩
  · injection e with e1 e2 e3
    subst e1 e3
    rw [e2]
    have hcl : (Vl.list l).count = 1 + Vls.count l := rfl
    exact take_none S D B Q bv es w hB hS (by omega) _ (by omega)
  · injection e with e1 e2 e3
    subst e1 e3
    have hgS : S g := hg g rfl
    refine take_row l ih g c us S D _ B Q bv es w (TakeI.start hB hSD (hsep.mono (fun b hb => ⟨hb.1, fun e => hb.2 (by rw [e]; rfl)⟩))) hown hS hSB hSD hB.rows hgS hc hes
mutual
theorem take_all : ∀ x : Vl, TakeOk x
  | .unit => fun S D B Q bv es v w hv hS _ _ hB _ _ => by unfold Vl.sep at hv; subst hv; exact take_miss _ _ (by decide) _ Q S D B bv es w hB hS
  | .truth _ => fun S D B Q bv es v w hv hS _ _ hB _ _ => by unfold Vl.sep at hv; subst hv; exact take_miss _ _ (by decide) _ Q S D B bv es w hB hS
  | .int _ => fun S D B Q bv es v w hv hS _ _ hB _ _ => by unfold Vl.sep at hv; subst hv; exact take_miss _ _ (by decide) _ Q S D B bv es w hB hS
  | .text _ => fun S D B Q bv es v w hv hS _ _ hB _ _ => by unfold Vl.sep at hv; subst hv; exact take_miss _ _ (by decide) _ Q S D B bv es w hB hS
  | .list l => take_list l (take_alls l)
theorem take_alls : ∀ (l : List Vl) (j : Nat) (h : j < l.length), TakeOk l[j]
  | [], j, h => absurd h (by simp)
  | x :: xs, 0, _ => take_all x
  | x :: xs, j + 1, h => take_alls xs j (by simpa using h)
end
end Go.Proofs.YtcldbjgikkfnbaaGreatDoor
