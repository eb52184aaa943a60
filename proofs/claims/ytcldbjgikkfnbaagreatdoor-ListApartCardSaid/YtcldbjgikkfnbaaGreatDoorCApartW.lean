/-
  espalierlaw11.ListApart, for any operations: it returns true. Conditions: they lie in memory; the lists' capacities are no less than their lengths.
-/
import Derived.Test.YtcldbjgikkfnbaaGreatDoorCApartP
import Derived.Deep.RegionHeld3
import Derived.Deep.RegionLaw
import Derived.Deep.CutRange
namespace Go.Proofs.YtcldbjgikkfnbaaGreatDoor
open Go.RowKit
set_option linter.unusedVariables false

theorem book_start (w w1 : World) (hb : w.heap.size ≤ w1.heap.size) : BookAt (w1.alloc (.cells #[.slice none 0 0] 56)) w.heap.size w1.heap.size (.slice none 0 0) [] (fun _ => False) :=
  ⟨⟨heap_alloc_new _ _, hb, World.ownsRow_nil _ _ _ _⟩, fun j e h => by simp at h, fun b h => h.elim⟩
theorem BookAt.below {w w' : World} {B Q : Nat} {v : Value} {es : List Ent} {D : Nat → Prop} (h : BookAt w B Q v es D) (hb : Below w.heap.size w w') : BookAt w' B Q v es D :=
  ⟨h.row.keep (fun b hb' => hb.block b (by rcases hb' with rfl | hb'; exact lt_of_block h.row.blk; exact (h.row.row.lt b hb').2)), h.marks.keep (fun b hb' => hb.block b (h.rows b hb').1) (fun _ h => h), fun b hb' => ⟨Nat.lt_of_lt_of_le (h.rows b hb').1 hb.size, (h.rows b hb').2.keep (hb.block b (h.rows b hb').1)⟩⟩
set_option maxRecDepth 100000 in
set_option maxHeartbeats 8000000 in
theorem law_ListApart (n : Nat) (A : Option Addr) (c : Nat) (w : World) (hA : 0 < n → ∃ b o, A = some ⟨b, o, none⟩ ∧ ∀ k, k < n → ∃ op ps A c, CallAt w b (o + k * 2) op ps A c ∧ CapsAt w ps A) :
    Calls Tryz.prog 7 #[.slice A n c] w (Bel (.bool true) w) := by
  obtain ⟨i0, hi, hz0, hz1, hz2⟩ := info_plain_parts
  have HA := Lib.hid hA
  clear hA
  go_enter Tryz.func7, Tryz.ntmps7
  go_wp2_with fail
  refine (law11_begun w).mono ?_
  rintro e w1 ⟨rfl, hb1⟩
  have HQ0 := Lib.hid (book_start w w1 hb1.size)
  have HB1 := Lib.hid (hb1.alloc hb1.size (.cells #[.slice none 0 0] 56))
  clear hb1
  go_wp2
  generalize w1.alloc (.cells #[.slice none 0 0] 56) = w2 at *
  generalize w1.heap.size = Q at *
  go_loopw [4] (fun s4 wr => ∃ (k : Nat) (v : Value) (es : List Ent) (D : Nat → Prop), k ≤ n ∧ k ≤ 20 ∧ s4 = .int .i64 (k : Int) ∧ BookAt wr w.heap.size Q v es D ∧ es.length ≤ lim k ∧ Below w.heap.size w wr) (fun s4 _ => n - (intOf s4).toNat)
  case atStart => exact ⟨0, _, [], _, Nat.zero_le _, Nat.zero_le _, rfl, HQ0.out, Nat.zero_le _, HB1.out⟩
  case round =>
    obtain ⟨k, v, es, D, hk, hk20, rfl, hbk, hel, hbel⟩ := hrel
    have HBK := Lib.hid hbk
    have HEL := Lib.hid hel
    have HB := Lib.hid hbel
    have hws := hbel.size
    clear hbk hel hbel HQ0
    by_cases hlt : k < n
    · by_cases h2k : k < 20
      · obtain ⟨b, o, rfl, hcalls⟩ := HA.out (by omega)
        obtain ⟨op, ps, A', c', hcall, hcp⟩ := hcalls k hlt
        have HC0 := Lib.hid hcall
        have HCP := Lib.hid hcp
        have HC := Lib.hid (hcall.below HB.out)
        obtain ⟨f1, hop⟩ := apart_op op ps A' c' w hcall.len hcall.lies hcp
        have HOP := Lib.hid hop
        have HBX := Lib.hid ((Below.refl wr.heap.size wr).alloc (Nat.le_refl _) (.cells #[.string op, .slice A' ps.length c'] 27))
        have KL := Lib.hid (law11_light ps A' c' _ HC.out.len (HC.out.lies.below HBX.out HBX.out.size))
        have e0 := HC.out.op_
        have e1 := HC.out.args
        clear hcalls hcall hcp hop
        go_wp2_with fail
        refine KL.out.mono ?_
        rintro e w5 ⟨q, rfl, hq2, hb5⟩
        have HQ2 := Lib.hid hq2
        clear hq2
        have HX5 := Lib.hid ((hb5.block wr.heap.size (by simp)).trans (heap_alloc_new wr _))
        have HL5 := Lib.hid (HBX.out.trans (hb5.mono HBX.out.size))
        have HG5 := Lib.hid (HB.out.trans (HL5.out.mono hws))
        have hs5 := HL5.out.size
        have c5 := blk11_cells HX5.out
        clear hb5 KL e0 e1 HBX HC
        cases q
        · go_wp2
          go_roundw
          case rel => exact ⟨k + 1, v, es, D, by omega, by omega, by go_num, HBK.out.below HL5.out, lim_next HEL.out, HG5.out⟩
          case measure => simp [intOf]; omega
        by_cases hn0 : ps.length = 0
        · have hd0 : decide (ps.length = 0) = true := by simpa using hn0
          go_wp2
          go_roundw
          case rel => exact ⟨k + 1, v, es, D, by omega, by omega, by go_num, HBK.out.below HL5.out, lim_next HEL.out, HG5.out⟩
          case measure => simp [intOf]; omega
        have hd0 : ((ps.length : Int) == 0) = false := beq_eq_false_iff_ne.2 (by omega)
        obtain ⟨ab, ao, rfl⟩ := HC0.out.lies.head (by omega)
        obtain ⟨hab, x0, x1, x2, hlenx, Ax, cx, x3, hlx⟩ := (HC0.out.lies.at_ 0 (by omega)).parts
        have hsx := Lib.hid (HC0.out.lies.at_ 0 (by omega)).sane
        have hcx : Hid (ps[0].list.length ≤ cx) := Lib.hid (HCP.out ab ao rfl 0 (by omega) _ _ _ x3)
        have HLX := Lib.hid hlx
        generalize ps[0] = p at *
        simp only [Nat.zero_mul, Nat.add_zero] at x0 x1 x2 x3
        have HX6 := Lib.hid (heap_alloc_new w5 (.cells #[.string op, .slice none 0 0] 27))
        have HX56 := Lib.hid ((Below.heap_alloc w5 (.cells #[.string op, .slice none 0 0] 27) _ (lt_of_block HX5.out)).trans HX5.out)
        have HB6 := Lib.hid ((Below.refl w5.heap.size w5).alloc (Nat.le_refl _) (.cells #[.string op, .slice none 0 0] 27))
        have h5lt := lt_of_block HX5.out
        clear hlx hlenx
        have hpos : 0 < ps.length := by omega
        have hp2 : ps.length ≤ 2000 := (HQ2.out rfl).1
        clear hn0
        go_wp2
        obtain ⟨wo, hwo⟩ : ∃ z, z = wr := ⟨wr, rfl⟩
        subst hwo
        go_loopw [7] (fun s7 wx => ∃ (m : Nat) (s : Value), m ≤ ps.length ∧ s7 = .int .i64 (m : Int) ∧ SameI (w5.heap.size + 1) wo.heap.size w5.heap.size op ps.length (some ⟨ab, ao, none⟩) c' (w5.alloc (.cells #[.string op, .slice none 0 0] 27)) ⟨p, Ax, cx⟩ m s wx) (fun s7 _ => ps.length - (intOf s7).toNat)
        case atStart => exact ⟨0, .slice none 0 0, Nat.zero_le _, rfl, ⟨HX56.out, HX6.out, World.ownsRow_nil _ _ _ _, fun _ _ _ => rfl, rfl, rfl, rfl, Nat.le_refl _⟩⟩
        case round =>
          obtain ⟨m, s, hm, rfl, hI⟩ := hrel
          have HI := Lib.hid hI
          obtain ⟨A6, c6, hv6⟩ := own_form hI.own
          subst hv6
          have hwsz : w5.heap.size + 1 ≤ wr.heap.size := by have := hI.sys.2.2.2; rw [size_alloc] at this; exact this
          have d5 := blk11_cells hI.b5
          have d6 := blk11_cells hI.b6
          have f6 := blk11_free hI.b6
          clear hI
          by_cases hlt2 : m < ps.length
          · have hoff : ∀ j, wr.cell? ⟨ab, j, none⟩ = w.cell? ⟨ab, j, none⟩ := fun j => by
              have h1 : ab < wo.heap.size := Nat.lt_of_lt_of_le hab hws
              exact (World.cell?_of_block (a := ⟨ab, j, none⟩) (HI.out.bel ab (by omega) (by omega))).trans ((HB6.out.cell (p := ⟨ab, j, none⟩) (Nat.lt_of_lt_of_le h1 hs5)).trans (HG5.out.cell (p := ⟨ab, j, none⟩) hab))
            have y0 := (hoff _).trans x0
            have y1 := (hoff _).trans x1
            have y2 := (hoff _).trans x2
            have y3 := (hoff _).trans x3
            clear hoff
            have HOA := Lib.hid (HI.out.own.alloc (.cells #[.int .i64 p.kind, .int .i64 p.num, .string p.text, .slice Ax p.list.length cx] 31))
            have z6 : (wr.alloc (.cells #[.int .i64 p.kind, .int .i64 p.num, .string p.text, .slice Ax p.list.length cx] 31)).cell? ⟨w5.heap.size, 1, none⟩ = some (.slice A6 m c6) := alloc_cell _ (d6 1)
            go_upto_region 13 with fail
            go_region_law (first
              | (refine step_append_any rfl _ _ 25 rfl (w5.heap.size + 1) 31 i0 _ 4 56 Tryz.underlying25 hi hz0 hz1 hz2 rfl (by decide) _ m _ rfl HOA.out (some ⟨wr.heap.size, 0, none⟩) 1 1 (p.cells4 Ax cx) rfl rfl (by simp) (fun ad hA j u hj => by injection hA with hA; subst hA; exact World.news_of_block (heap_alloc_new wr (.cells #[.int .i64 p.kind, .int .i64 p.num, .string p.text, .slice Ax p.list.length cx] 31)) j u hj) (by intro u hu; unfold Pl.cells4 at hu; simp at hu; rcases hu with rfl | rfl | rfl | rfl <;> rfl) (by unfold maxLen; omega) (by omega) (by show w5.heap.size + 1 ≤ (wr.alloc _).heap.size; rw [size_alloc]; omega) ?_; intro v6 w6 hown6 hgr6 hat6; obtain ⟨g6, c7, rfl⟩ := own_some hown6; obtain ⟨hI6, hx6⟩ := HI.out.step (x := ⟨p, Ax, cx⟩) (w1 := wr) (by omega) (by omega) (by omega) hwsz ⟨hgr6.os, hgr6.tape, hgr6.output, hgr6.size, hgr6.block⟩ hown6; have HI6 := Lib.hid hI6; have k6 := blk11_cells hx6; have l6 := blk11_free hx6; clear hI6 hx6 hown6 hgr6 hat6))
            all_goals
              clear z6 HOA d5 d6 f6 y0 y1 y2 y3 k6 l6
              go_wp2
              go_roundw
              case rel => exact ⟨m + 1, _, by omega, by go_num, HI6.out⟩
              case measure => simp [intOf]; omega
          · have hml : m = ps.length := by omega
            subst hml
            have HAW : Hid (Below wo.heap.size wo wr) := Lib.hid (HI.out.below (HL5.out.trans (HB6.out.mono hs5)) (by omega) (by omega))
            have HGW := Lib.hid (HB.out.trans (HAW.out.mono hws))
            obtain ⟨g6, c7, hv, hl7, hcap7⟩ := same_ready HI.out hpos hsx.out (HLX.out.below HGW.out HGW.out.size) hcx.out
            injection hv with hv1 _ hv2
            subst hv1 hv2
            obtain ⟨f2, hop2⟩ := apart_op op (List.replicate ps.length p) (some ⟨g6, 0, none⟩) c6 wr (by rw [List.length_replicate]; omega) hl7 hcap7
            have HOP2 := Lib.hid hop2
            have KW := Lib.hid (HOP.out.work wr HGW.out)
            clear hl7 hcap7 hop2 f6
            go_wp2_with fail
            refine KW.out.mono ?_
            rintro e w8 ⟨v1, rfl, ht1, hb8⟩
            have HT1 := Lib.hid ht1
            have HA8 := Lib.hid hb8
            have h58 := (hb8.block _ (lt_of_block HI.out.b5)).trans HI.out.b5
            have h68 := (hb8.block _ (lt_of_block HI.out.b6)).trans HI.out.b6
            have H58 := Lib.hid h58
            have H68 := Lib.hid h68
            have KW2 := Lib.hid (HOP2.out.work w8 hb8)
            have z5 := blk11_cells h58
            have z6 := blk11_cells h68
            rw [List.length_replicate] at KW2
            clear ht1 hb8 h58 h68 d5 d6 KW
            go_wp2_with fail
            refine KW2.out.mono ?_
            rintro e w9 ⟨v2, rfl, ht2, hb9⟩
            have HT2 := Lib.hid ht2
            have HA9 := Lib.hid hb9
            have HG9 := Lib.hid (HGW.out.trans ((HA8.out.trans (hb9.mono HA8.out.size)).mono HGW.out.size))
            have h59 := (hb9.block _ (lt_of_block H58.out)).trans H58.out
            have h69 := (hb9.block _ (lt_of_block H68.out)).trans H68.out
            have H59 := Lib.hid h59
            have H69 := Lib.hid h69
            have KR := Lib.hid (HOP.out.ref w9 HG9.out)
            have y5 := blk11_cells h59
            clear ht2 hb9 h59 h69 z5 z6 KW2
            go_wp2_with fail
            refine KR.out.mono ?_
            rintro e w10 ⟨pA, AA, cA, rfl, hb10⟩
            have HAX := Lib.hid (hb10.alloc hb10.size (.cells #[.int .i64 pA.kind, .int .i64 pA.num, .string pA.text, .slice AA pA.list.length cA] 31))
            have h6x := (HAX.out.block _ (lt_of_block H69.out)).trans H69.out
            have H6X := Lib.hid h6x
            have KR2 := Lib.hid (HOP2.out.ref _ ((HA8.out.trans (HA9.out.mono HA8.out.size)).trans (HAX.out.mono (Nat.le_trans HA8.out.size HA9.out.size))))
            rw [List.length_replicate] at KR2
            have x6 := blk11_cells h6x
            clear hb10 h6x y5 KR
            go_wp2_with fail
            refine KR2.out.mono ?_
            rintro e w12 ⟨pB, AB, cB, rfl, hb12⟩
            have HAY := Lib.hid ((HAX.out.trans (hb12.mono HAX.out.size)).alloc (Nat.le_trans HAX.out.size hb12.size) (.cells #[.int .i64 pB.kind, .int .i64 pB.num, .string pB.text, .slice AB pB.list.length cB] 31))
            clear hb12 x6 KR2
            have q1 : (f1 == f1) = true := by simp
            have q2 : (f2 == f2) = true := by simp
            go_upto_region 20 with fail
            generalize w12.alloc (.cells #[.int .i64 pB.kind, .int .i64 pB.num, .string pB.text, .slice AB pB.list.length cB] 31) = w13 at *
            have hz8 := HA8.out.size
            have hz9 := HA9.out.size
            have hzy := HAY.out.size
            have hzw := HAW.out.size
            have HA8Y := Lib.hid (HA9.out.trans (HAY.out.mono hz9))
            have HAWY := Lib.hid (HA8.out.trans (HA8Y.out.mono hz8))
            have HLY := Lib.hid (HAW.out.trans (HAWY.out.mono hzw))
            have HGY := Lib.hid (HB.out.trans (HLY.out.mono hws))
            have HB13 := Lib.hid (HBK.out.below HLY.out)
            have hel9 : es.length ≤ 2700000 := lim_20 HEL.out (by omega)
            have hD0 : ∀ b, D b → b < wo.heap.size := fun b hb => (HBK.out.rows b hb).1
            have HD0 := Lib.hid hD0
            have KT := Lib.hid (take_told (fresh wr w8) D w.heap.size Q v es v1 w13 (HT1.out.below HA8Y.out (fun b hb => hb.2)) (fun b hb => by have := hb.2; omega) (fun b hb => by have := hb.1; omega) HB13.out (fun b hb hb' => by have := hb.1; have := HD0.out b hb'; omega) (by omega))
            have HT2Y := Lib.hid (HT2.out.below HAY.out (fun b hb => hb.2))
            clear hD0 q1 q2 HT1 HT2 H58 H59 H68 H69 H6X HAX HOP HOP2 HI HX5 HX56 HX6 HB6 HL5 HG5 HGW HG9 HLX HBK
            go_wp2_with fail
            refine KT.out.mono ?_
            rintro e w14 ⟨rfl, v4, es1, hB14, hl1, hs14, hb14⟩
            have HB14 := Lib.hid hB14
            have HL1 := Lib.hid hl1
            have HS14 := Lib.hid hs14
            have HG14 := Lib.hid (HGY.out.trans hb14)
            have hz14 := hs14.size
            have KT2 := Lib.hid (take_told (fresh w8 w9) (Dn D (fresh wr w8) w14) w.heap.size Q v4 (es ++ es1) v2 w14 (HT2Y.out.savT hs14 (fun b hb => ⟨by have := hb.2; omega, fun h => by have := hb.1; have := h.2; omega⟩)) (fun b hb => by have := hb.2; omega) (fun b hb => by have := hb.1; omega) hB14 (fun b hb hb' => by
              rcases hb' with hb' | hb'
              · have := hb.1; have := HD0.out b hb'; omega
              · have := hb.1; have := hb'.1.2; omega) (by rw [List.length_append]; omega))
            clear hB14 hl1 hs14 hb14 KT
            go_wp2_with fail
            refine KT2.out.mono ?_
            rintro e w15 ⟨rfl, v5, es2, hB15, hl2, hs15, hb15⟩
            have HB15 := Lib.hid hB15
            have HL2 := Lib.hid hl2
            have HG15 := Lib.hid (HG14.out.trans hb15)
            clear hB15 hl2 hs15 hb15 KT2
            go_wp2
            go_roundw
            case rel => exact ⟨k + 1, v5, _, _, by omega, by omega, by go_num, HB15.out, by rw [List.length_append, List.length_append]; exact lim_add HEL.out HL1.out HL2.out, HG15.out⟩
            case measure => simp [intOf]; omega
      · have h2k' : decide ((k : Int) < 20) = false := by simp; omega
        have KH := Lib.hid (book_Held D w.heap.size Q v es wr HBK.out (by have := lim_20 HEL.out hk20; omega))
        go_wp2_with fail
        refine KH.out.mono ?_
        rintro e w9 ⟨rfl, hb9⟩
        have HZ := Lib.hid (HB.out.trans (hb9.mono hws))
        clear hb9
        go_wp2
        go_ret
        exact ⟨rfl, HZ.out⟩
    · have KH := Lib.hid (book_Held D w.heap.size Q v es wr HBK.out (by have := lim_20 HEL.out hk20; omega))
      go_wp2_with fail
      refine KH.out.mono ?_
      rintro e w9 ⟨rfl, hb9⟩
      have HZ := Lib.hid (HB.out.trans (hb9.mono hws))
      clear hb9
      go_wp2
      go_ret
      exact ⟨rfl, HZ.out⟩
end Go.Proofs.YtcldbjgikkfnbaaGreatDoor
