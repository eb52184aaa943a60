/-
  espalierlaw2.plain, Plain, Is, Fits of any value: walks. Conditions: it lies in memory, has at most 70,000 values, lies at most 70 deep.
-/
import Derived.Test.YthjpphojddbbmaaGreatDoorCPlFits
namespace Go.Proofs.YthjpphojddbbmaaGreatDoor
open Go.RowKit
set_option linter.unusedVariables false
set_option linter.unusedSimpArgs false

def PlainPost (x : Vl) (b : Nat) (m : Int) (w : World) (e : Ending) (w' : World) : Prop :=
  ∃ A c, e = .returned (.tuple #[x.toPl.arg A c, .bool true]) ∧ w'.heap[b]? = some (.cells #[.int .i64 (m + x.count)] 3 (0, 0)) ∧ w.grownBy w' (some b) ∧ Pls.sits w' (fresh w w') x.toPl.list A
def PlainAll (x : Vl) : Prop := ∀ (v : Value) (S : Nat → Prop) (b : Nat) (m deep : Int) (w : World), x.is w S v → (∀ c, S c → c < w.heap.size ∧ c ≠ b) → x.fine → w.heap[b]? = some (.cells #[.int .i64 m] 3 (0, 0)) → 0 ≤ m → m + x.count ≤ 70000 → 0 ≤ deep → deep + x.dep ≤ 71 →
  Calls Tryz.prog 115 #[v, .pointer (some ⟨b, 0, none⟩), .int .i64 deep] w (PlainPost x b m w)
theorem plain_scalar (x : Vl) (hx : x.isList = false) : PlainAll x := by
  intro v S b m deep w hv hS hf hb h0 h1 h2 h3
  have hc : x.count = 1 := by cases x <;> first | rfl | cases hx
  have hd : x.dep = 1 := by cases x <;> first | rfl | cases hx
  rw [hc] at h1
  rw [hd] at h3
  refine (plain_one x hx v S b m deep w hv hb h0 (by omega) h2 (by omega)).mono ?_
  rintro e w' ⟨he, hb', hg⟩
  refine ⟨none, 0, he, ?_, hg, ?_⟩
  · rw [hb', hc]; rfl
  · rw [toPl_list hx]; unfold Pls.sits; trivial
theorem blkp_cells {w : World} {b : Nat} {cs : Array Value} {T : TypeId} {z : Nat × Nat} (h : w.heap[b]? = some (.cells cs T z)) (j : Nat) : w.cell? ⟨b, j, none⟩ = cs[j]? := by simp [World.cell?, h]
theorem blkp_free {w : World} {b : Nat} {cs : Array Value} {T : TypeId} (h : w.heap[b]? = some (.cells cs T (0, 0))) (j : Nat) : w.frozen? ⟨b, j, none⟩ = false := by simp [World.frozen?, h]
theorem alloc_cells_ {w : World} {b : Nat} {cs : Array Value} {T : TypeId} {z : Nat × Nat} {o : Obj} (h : w.heap[b]? = some (.cells cs T z)) (j : Nat) : (w.alloc o).cell? ⟨b, j, none⟩ = cs[j]? := (World.cell?_alloc_lt _ _ _ (lt_of_block h)).trans (blkp_cells h j)
theorem plain_start {w : World} {b : Nat} {m : Int} (h : w.heap[b]? = some (.cells #[.int .i64 m] 3 (0, 0))) (X Y : Obj) :
    (((w.setCell ⟨b, 0, none⟩ (.int .i64 (m + 1))).alloc X).alloc Y).heap[w.heap.size + 1]? = some Y := by
  have := heap_alloc_new ((w.setCell ⟨b, 0, none⟩ (.int .i64 (m + 1))).alloc X) Y
  rwa [size_alloc, size_set] at this
theorem grown_trans {w w1 w2 : World} {b : Nat} (h : w.grownBy w1 (some b)) (h' : w1.grownBy w2 (some b)) : w.grownBy w2 (some b) := grown_on h h'
theorem grown_below_ {w w1 w2 : World} {b : Nat} (h : w.grownBy w1 (some b)) {row : Option Nat} (h' : w1.grownBy w2 row) (hr : ∀ g, row = some g → w.heap.size ≤ g) : w.grownBy w2 (some b) :=
  ⟨h'.os.trans h.os, h'.tape.trans h.tape, h'.output.trans h.output, Nat.le_trans h.size h'.size, fun k hk hne => (h'.block k (Nat.lt_of_lt_of_le hk h.size) (fun e => by have := hr k e.symm; omega)).trans (h.block k hk hne)⟩
theorem grown_alloc_ {w w1 : World} {b : Nat} (h : w.grownBy w1 (some b)) (o : Obj) : w.grownBy (w1.alloc o) (some b) :=
  ⟨h.os, h.tape, h.output, by rw [size_alloc]; have := h.size; omega, fun k hk hne => (Below.heap_alloc _ _ _ (by have := h.size; omega)).trans (h.block k hk hne)⟩
theorem grown_set_ {w w1 : World} {b : Nat} (h : w.grownBy w1 (some b)) (p : Addr) (hp : w.heap.size ≤ p.block) (u : Value) : w.grownBy (w1.setCell p u) (some b) :=
  ⟨h.os, h.tape, h.output, by rw [size_set]; exact h.size, fun k hk hne => (Below.heap_setCell _ _ _ _ (fun e => by omega)).trans (h.block k hk hne)⟩
theorem toPl_listmk (l : List Vl) : (Vl.list l).toPl = .mk 5 0 ⟨#[]⟩ (Vls.toPl l) := by rw [Vl.toPl]
theorem take_toPl {l : List Vl} {k : Nat} (h : k < l.length) : (Vls.toPl l).take (k + 1) = (Vls.toPl l).take k ++ [l[k].toPl] := by
  rw [List.take_succ_eq_append_getElem (by rw [Vls.toPl_length]; exact h), Vls.toPl_get l k h]
set_option maxRecDepth 100000 in
set_option maxHeartbeats 8000000 in
theorem plain_list (l : List Vl) (ih : ∀ (j : Nat) (h : j < l.length), PlainAll l[j]) : PlainAll (.list l) := by
  intro v S b m deep w hv hS hf hb h0 h1 h2 h3
  unfold Vl.is at hv
  obtain ⟨A, c, rfl, hl⟩ := hv
  obtain ⟨i0, hi, hz0, hz1, hz2⟩ := info_plain_parts
  have hnU := pf_no_Unit 158 (.slice A l.length c) (by decide)
  have hnT := pf_no_Truth 158 (.slice A l.length c) (by decide)
  have hnI := pf_no_Int 158 (.slice A l.length c) (by decide)
  have hnX := pf_no_Text 158 (.slice A l.length c) (by decide)
  have ha := pf_as_List (.slice A l.length c)
  have hc := cell_of_one hb
  have hfr := free_of_one hb
  have hbl := lt_of_block hb
  have hll := Vls.len_count l
  have hcl : (Vl.list l).count = 1 + Vls.count l := rfl
  have hdl : (Vl.list l).dep = 1 + Vls.dep l := rfl
  rw [hcl] at h1
  rw [hdl] at h3
  unfold Vl.fine at hf
  obtain ⟨_, hf⟩ := hf
  have hlen : l.length ≤ 70000 := by omega
  have HL := Lib.hid hl
  have HS := Lib.hid hS
  have HF := Lib.hid hf
  have IH := Lib.hid ih
  have HBK := Lib.hid hb
  have H1 := Lib.hid h1
  have H3 := Lib.hid h3
  have HP := Lib.hid (toPl_listmk l)
  have hm1 : m ≤ 69999 := by omega
  have hd1 : deep ≤ 70 := by omega
  have hpe := plain_end2 hb (.cells #[.int .i64 0, .int .i64 0, .string ⟨#[]⟩, .slice none 0 0] 34) (.cells #[.int .i64 5, .int .i64 0, .string ⟨#[]⟩, .slice none 0 0] 34)
  have HE := Lib.hid hpe
  have HR0 := Lib.hid (made_at2 w ⟨b, 0, none⟩ (.int .i64 (m + 1)) (.cells #[.int .i64 0, .int .i64 0, .string ⟨#[]⟩, .slice none 0 0] 34) (.cells #[.int .i64 5, .int .i64 0, .string ⟨#[]⟩, .slice none 0 0] 34))
  have HP0 := Lib.hid (plain_start hb (.cells #[.int .i64 0, .int .i64 0, .string ⟨#[]⟩, .slice none 0 0] 34) (.cells #[.int .i64 5, .int .i64 0, .string ⟨#[]⟩, .slice none 0 0] 34))
  clear hl hS hf ih hb h1 h3 hpe hcl hdl hll
  go_enter Tryz.func115, Tryz.ntmps115
  go_wp2
  clear hnU hnT hnI hnX ha hc hfr
  generalize hW1 : (((w.setCell ⟨b, 0, none⟩ (.int .i64 (m + 1))).alloc (.cells #[.int .i64 0, .int .i64 0, .string ⟨#[]⟩, .slice none 0 0] 34)).alloc (.cells #[.int .i64 5, .int .i64 0, .string ⟨#[]⟩, .slice none 0 0] 34)) = W1 at *
  clear hW1
  go_loopw [15] (fun s15 wr => ∃ (k : Nat) (us : List PlAt) (s : Value), k ≤ l.length ∧ s15 = .int .i64 (k : Int) ∧ us.map PlAt.p = (Vls.toPl l).take k ∧ PlOwn (w.heap.size + 2) wr s us ∧ wr.heap[w.heap.size]? = some (.cells #[.int .i64 0, .int .i64 0, .string ⟨#[]⟩, .slice none 0 0] 34 (0, 0)) ∧
      wr.heap[w.heap.size + 1]? = some (.cells #[.int .i64 5, .int .i64 0, .string ⟨#[]⟩, s] 34 (0, 0)) ∧ wr.heap[b]? = some (.cells #[.int .i64 (m + 1 + Vls.count (l.take k))] 3 (0, 0)) ∧ w.grownBy wr (some b)) (fun s15 _ => l.length - (intOf s15).toNat)
  case atStart => exact ⟨0, [], .slice none 0 0, Nat.zero_le _, rfl, by simp, PlOwn.nil _ _, HR0.out, HP0.out, by rw [HE.out.1]; simp [Vls.count], HE.out.2⟩
  case round =>
    clear HR0 HP0 HE
    obtain ⟨k, us, s, hk, rfl, hus, hown, hrb, hpb, hbb, hgr⟩ := hrel
    have HU := Lib.hid hus
    have HO := Lib.hid hown
    have HRB := Lib.hid hrb
    have HPB := Lib.hid hpb
    have HG := Lib.hid hgr
    have hsz : w.heap.size + 1 < wr.heap.size := lt_of_block hpb
    have hul : us.length = k := by have := congrArg List.length hus; rw [List.length_map, List.length_take, Vls.toPl_length] at this; omega
    clear hus hown hgr
    by_cases hlt : k < l.length
    · have HBB := Lib.hid hbb
      obtain ⟨b1, o1, rfl⟩ := HL.out.head (by omega)
      obtain ⟨hsb, u, d0, hx⟩ := (HL.out).at_ k hlt
      have hcell : ∀ c o, S c → wr.cell? ⟨c, o, none⟩ = w.cell? ⟨c, o, none⟩ := fun c o hs => World.cell?_of_block (a := ⟨c, o, none⟩) (HG.out.block c (HS.out c hs).1 (fun e => (HS.out c hs).2 (by injection e)))
      have d1 : wr.cell? ⟨b1, o1 + k, none⟩ = some u := (hcell b1 _ hsb).trans d0
      have hcnt := Vls.count_take l k hlt
      have hcle := Vls.count_le l (k + 1)
      have hdk := Vls.dep_at k hlt
      have h1 := H1.out
      have h3 := H3.out
      have KP := Lib.hid (IH.out k hlt u S b (m + 1 + Vls.count (l.take k)) (deep + 1) wr (hx.keep hcell (fun b h => h)) (fun c hs => ⟨Nat.lt_of_lt_of_le (HS.out c hs).1 (by omega), (HS.out c hs).2⟩) (HF.out.at_ k hlt) hbb (by omega) (by omega) (by omega) (by omega))
      have hsane := Lib.hid (toPl_saneL (HF.out.at_ k hlt) (by omega))
      have HCN := Lib.hid hcnt
      have HTK := Lib.hid (take_toPl hlt)
      have hus7 : us.length ≤ 70000 := by omega
      have HUL := Lib.hid hul
      obtain ⟨vt, vx, rfl⟩ := hx.iface
      clear hx d0 hcell hbb hrb hcnt hcle hdk h1 h3 hul
      unfold PlainPost Pl.arg at KP
      generalize l[k] = x at *
      have f0 := blkp_cells hpb
      go_wp2_with fail
      refine KP.out.mono ?_
      rintro e w2 ⟨A1, c1, rfl, hb2, hg2, hsit⟩
      have HB2 := Lib.hid hb2
      have HG2 := Lib.hid hg2
      have HSI := Lib.hid hsit
      have hs2 := hg2.size
      have hP2 := (hg2.block (w.heap.size + 1) (by omega) (fun e => by injection e with e; omega)).trans HPB.out
      have HP2 := Lib.hid hP2
      have g0 := fun j => alloc_cells_ (o := .cells #[.int .i64 x.toPl.kind, .int .i64 x.toPl.num, .string x.toPl.text, .slice A1 x.toPl.list.length c1] 34) hP2 j
      have hown2 := Lib.hid (((HO.out.keep hs2 (fun b' h1 h2 => hg2.block b' h2 (fun e => by injection e with e; omega))).own.alloc (.cells #[.int .i64 x.toPl.kind, .int .i64 x.toPl.num, .string x.toPl.text, .slice A1 x.toPl.list.length c1] 34)).alloc (.cells (x.toPl.cells4 A1 c1).toArray 34))
      obtain ⟨As, cs, hss, _⟩ := HO.out.slice
      unfold Pl.cells4 at hown2
      clear hb2 hg2 hsit KP d1 f0 hpb hP2
      subst hss
      go_wp2_with (at_builtin; refine wpList_append_lies _ rfl _ _ 24 rfl (w.heap.size + 2) 34 i0 _ 4 56 Tryz.underlying24 hi hz0 hz1 hz2 rfl (by decide) _ us.length (us.flatMap PlAt.cells) rfl hown2.out ⟨w2.heap.size + 1, 0, none⟩ 1 1 (x.toPl.cells4 A1 c1) rfl rfl (World.news_of_block (by exact (heap_alloc2 w2 _ _).2)) (by intro u hu; unfold Pl.cells4 at hu; simp at hu; rcases hu with rfl | rfl | rfl | rfl <;> rfl) (by decide) (by unfold maxLen; omega) (by omega) (by simp; omega) (w2.heap.size + 2) (by simp) ?_)
      intro g cap w7 hown7 hgr7 hat hlt7
      have hs7 := hgr7.size
      rw [size_alloc, size_alloc] at hs7
      have hob : ∀ q, (Value.slice As us.length cs).ownBlock = some q → w.heap.size + 2 ≤ q := fun q e => (HO.out.own.lt q e).1
      have hold : ∀ q, q < w2.heap.size → q < w.heap.size + 2 → w7.heap[q]? = w2.heap[q]? := fun q h1 h2 => (hgr7.block q (by rw [size_alloc, size_alloc]; omega) (fun e => by have := hob q e.symm; omega)).trans ((Below.heap_alloc _ _ _ (by rw [size_alloc]; omega)).trans (Below.heap_alloc _ _ _ h1))
      have HP7 := (hold (w.heap.size + 1) (by omega) (by omega)).trans HP2.out
      have p0 := blkp_cells HP7
      have p1 := blkp_free HP7
      have HO7 := Lib.hid (PlOwn.step (HO.out) ⟨x.toPl, A1, c1⟩ (by omega) (w6 := w2.alloc (.cells #[.int .i64 x.toPl.kind, .int .i64 x.toPl.num, .string x.toPl.text, .slice A1 x.toPl.list.length c1] 34)) (by rw [size_alloc]; omega)
        (fun q h1 h2 => (Below.heap_alloc _ _ _ (by omega)).trans (HG2.out.block q h2 (fun e => by injection e with e; omega)))
        ⟨hsane.out, HSI.out.keep (fun q o hs => World.cell?_alloc_lt _ _ _ hs.2) (fun q hs => ⟨hs.1, by rw [size_alloc]; have := hs.2; omega⟩)⟩ hgr7 (by rw [size_alloc]; exact hat) hown7)
      have HG7 := Lib.hid (grown_below_ (grown_alloc_ (grown_alloc_ (grown_trans HG.out HG2.out) (.cells #[.int .i64 x.toPl.kind, .int .i64 x.toPl.num, .string x.toPl.text, .slice A1 x.toPl.list.length c1] 34)) (.cells (x.toPl.cells4 A1 c1).toArray 34)) hgr7 (fun q e => by have := hob q e; omega))
      have HB7 := Lib.hid ((hold b (by omega) (by omega)).trans HB2.out)
      have HR7 := Lib.hid ((hold w.heap.size (by omega) (by omega)).trans ((HG2.out.block w.heap.size (by omega) (fun e => by injection e with e; omega)).trans HRB.out))
      have HPP := Lib.hid HP7
      have hz7 : w.heap.size + 1 < w7.heap.size := by omega
      clear hown7 hgr7 hat hold hob hown2 g0 HP7
      go_wp2
      go_roundw
      case rel =>
        refine ⟨k + 1, us ++ [(⟨x.toPl, A1, c1⟩ : PlAt)], _, by omega, by go_num, by rw [List.map_append, HU.out, HTK.out]; rfl, HO7.out.keep (by rw [size_set]; omega) (fun q h1 h2 => Below.heap_setCell _ _ _ _ (by show q ≠ w.heap.size + 1; omega)), blk_far HR7.out (by show w.heap.size ≠ w.heap.size + 1; omega) _, ?_, ?_, grown_set_ HG7.out _ (by show w.heap.size ≤ w.heap.size + 1; omega) _⟩
        · exact blk_set HPP.out 3 _
        · refine (blk_far HB7.out (by show b ≠ w.heap.size + 1; omega) _).trans ?_
          have e : (m + 1 + (Vls.count (l.take k) : Nat) : Int) + (x.count : Nat) = m + 1 + ((Vls.count (l.take k) + x.count : Nat) : Int) := by omega
          rw [HCN.out, ← e]
      case measure => simp [intOf]; omega
    · have hkl : k = l.length := by omega
      have hps : us.map PlAt.p = Vls.toPl l := by rw [HU.out, List.take_of_length_le (by rw [Vls.toPl_length]; omega)]
      obtain ⟨As, cs, hss, hsit⟩ := HO.out.slice
      rw [hps] at hsit
      have HSI := Lib.hid hsit
      have hu2 : us.length = (Vls.toPl l).length := by rw [Vls.toPl_length]; omega
      have HBB := Lib.hid hbb
      have f0 := blkp_cells hpb
      have r0 := blkp_cells hrb
      have r1 := blkp_free hrb
      rw [hss] at f0
      have hres := Lib.hid (show (Vl.list l).toPl.arg As cs = .agg #[.int .i64 5, .int .i64 0, .string ⟨#[]⟩, .slice As us.length cs] by rw [HP.out]; unfold Pl.arg Pl.kind Pl.num Pl.text Pl.list; rw [hu2])
      have hcl : (m + 1 + Vls.count (l.take k) : Int) = m + (Vl.list l).count := by
        rw [hkl, List.take_length]
        show _ = m + ((1 + Vls.count l : Nat) : Int)
        omega
      have HCL := Lib.hid hcl
      clear hsit hps hbb hrb hpb hss hu2 hkl hul hcl
      go_wp2
      refine bodyPost_ret (fn := Tryz.f115) (v := .tuple #[.agg #[.int .i64 5, .int .i64 0, .string ⟨#[]⟩, .slice As us.length cs], .bool true]) (res_cell_tmp (p := 6) (q := 7) (ty := 34) (a := ⟨w.heap.size, 0, none⟩) Tryz.results115 rfl (run_loadVar_row (P := Tryz.prog) _ _ _ 34 _ _ _ (blk_set (blk_set (blk_set (blk_set HRB.out 0 (.int .i64 5)) 1 (.int .i64 0)) 2 (.string ⟨#[]⟩)) 3 (.slice As us.length cs)) Tryz.underlying34 rfl (by kernel_rfl)) rfl) rfl ?_
      refine ⟨As, cs, by rw [hres.out], ?_, grown_set_ (grown_set_ (grown_set_ (grown_set_ HG.out _ (Nat.le_refl _) _) _ (Nat.le_refl _) _) _ (Nat.le_refl _) _) _ (Nat.le_refl _) _, ?_⟩
      · rw [← HCL.out]
        exact blk_far (blk_far (blk_far (blk_far HBB.out (by show b ≠ w.heap.size; omega) _) (by show b ≠ w.heap.size; omega) _) (by show b ≠ w.heap.size; omega) _) (by show b ≠ w.heap.size; omega) _
      · rw [HP.out]
        refine HSI.out.keep (fun q o hs => ?_) (fun q hs => ⟨by have := hs.1; omega, by rw [size_set, size_set, size_set, size_set]; exact hs.2⟩)
        rw [cell_far _ _ (p := ⟨w.heap.size, 3, none⟩) (by show q ≠ w.heap.size; have := hs.1; omega), cell_far _ _ (p := ⟨w.heap.size, 2, none⟩) (by show q ≠ w.heap.size; have := hs.1; omega), cell_far _ _ (p := ⟨w.heap.size, 1, none⟩) (by show q ≠ w.heap.size; have := hs.1; omega), cell_far _ _ (p := ⟨w.heap.size, 0, none⟩) (by show q ≠ w.heap.size; have := hs.1; omega)]
theorem plain_all : ∀ (z : Nat) (x : Vl), SizeOf.sizeOf x ≤ z → PlainAll x
  | 0, x, h => absurd h (by cases x <;> simp <;> omega)
  | z + 1, .unit, _ => plain_scalar _ rfl
  | z + 1, .truth a, _ => plain_scalar _ rfl
  | z + 1, .int a, _ => plain_scalar _ rfl
  | z + 1, .text a, _ => plain_scalar _ rfl
  | z + 1, .list l, h => plain_list l (fun j hj => plain_all z l[j] (by have := Vl.size_lt hj; omega))
end Go.Proofs.YthjpphojddbbmaaGreatDoor
