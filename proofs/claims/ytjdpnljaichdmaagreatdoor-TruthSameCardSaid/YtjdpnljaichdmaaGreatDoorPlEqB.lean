/-
  espalierlaw2.Eq, espalierref2.order and Same: walks, for any two plain values. Conditions: both lie in memory.
-/
import Derived.Test.YtjdpnljaichdmaaGreatDoorZvalSame
import Derived.Test.YtjdpnljaichdmaaGreatDoorPlKept
namespace Go.Proofs.YtjdpnljaichdmaaGreatDoor
open Go.RowKit
set_option linter.unusedVariables false

def EqAll (p : Pl) : Prop := ∀ (q : Pl) (A A' : Option Addr) (c c' : Nat) (w : World), p.sane → q.sane → Pls.lies w w.heap.size p.list A → Pls.lies w w.heap.size q.list A' → Calls Tryz.prog 19 #[p.arg A c, q.arg A' c'] w (Bel (.bool (p.eqB q)) w)
theorem eqB_mk (k n k' n' : Int) (t t' : ByteArray) (l l' : List Pl) : (Pl.mk k n t l).eqB (.mk k' n' t' l') = (decide (k = k') && decide (n = n') && decide (t = t') && Pls.eqB l l') := by rw [Pl.eqB]
set_option maxRecDepth 100000 in
set_option maxHeartbeats 4000000 in
theorem eqB_step (k n : Int) (t : ByteArray) (l : List Pl) (ih : ∀ (j : Nat) (h : j < l.length), EqAll l[j]) : EqAll (.mk k n t l) := by
  rintro ⟨k', n', t', l'⟩ A A' c c' w hs hs' hl hl'
  change Pls.lies w w.heap.size l A at hl
  change Pls.lies w w.heap.size l' A' at hl'
  have HR := Lib.hid (eqB_mk k n k' n' t t' l l')
  have hlen : l.length * 56 ≤ 140737488351232 := hs.2.2.2
  have hlen' : l'.length * 56 ≤ 140737488351232 := hs'.2.2.2
  show Calls Tryz.prog 19 #[.agg #[.int .i64 k, .int .i64 n, .string t, .slice A l.length c], .agg #[.int .i64 k', .int .i64 n', .string t', .slice A' l'.length c']] w _
  have HBa := Lib.hid (fun X X' : Obj => ((Below.refl w.heap.size w).alloc (Nat.le_refl _) X).alloc (by simp) X')
  by_cases hk : k = k'
  case neg =>
    have hr := Lib.hid (show (Pl.mk k n t l).eqB (.mk k' n' t' l') = false by rw [HR.out, decide_eq_false hk]; rfl)
    have b1 : (k == k') = false := by simpa using hk
    have b2 : (k != k') = true := by simpa using hk
    clear hk hs hs' hl hl' ih
    go_enter Tryz.func19, Tryz.ntmps19
    go_wp2
    go_ret
    exact ⟨by rw [hr.out]; rfl, HBa.out _ _⟩
  by_cases hn : n = n'
  case neg =>
    subst hk
    have hr := Lib.hid (show (Pl.mk k n t l).eqB (.mk k n' t' l') = false by rw [HR.out, decide_eq_false hn]; simp)
    have b1 : (n == n') = false := by simpa using hn
    have b2 : (n != n') = true := by simpa using hn
    clear hn hs hs' hl hl' ih
    go_enter Tryz.func19, Tryz.ntmps19
    go_wp2
    go_ret
    exact ⟨by rw [hr.out]; rfl, HBa.out _ _⟩
  by_cases ht : t = t'
  case neg =>
    subst hk hn
    have hr := Lib.hid (show (Pl.mk k n t l).eqB (.mk k n t' l') = false by rw [HR.out, decide_eq_false ht]; simp)
    have b1 : (t.toList == t'.toList) = false := by rw [text_eqb]; simpa using ht
    have b2 : (t.toList != t'.toList) = true := by unfold bne; rw [b1]; rfl
    clear ht hs hs' hl hl' ih
    go_enter Tryz.func19, Tryz.ntmps19
    go_wp2
    go_ret
    exact ⟨by rw [hr.out]; rfl, HBa.out _ _⟩
  subst hk hn ht
  by_cases hml : l'.length = l.length
  case neg =>
    have hr := Lib.hid (show (Pl.mk k n t l).eqB (.mk k n t l') = false by
      rw [HR.out]
      cases hq : Pls.eqB l l'
      · simp
      · exact absurd (Pls.eqB_len hq).symm hml)
    have hb1 : ((l.length : Int) == (l'.length : Int)) = false := by simp; omega
    have hb2 : ((l.length : Int) != (l'.length : Int)) = true := by simp; omega
    have hb3 : (l.length == l'.length) = false := by simp; omega
    have hb4 : (l.length != l'.length) = true := by simp; omega
    clear hs hs' hl hl' ih hml
    go_enter Tryz.func19, Tryz.ntmps19
    go_wp2
    go_ret
    exact ⟨by rw [hr.out]; rfl, HBa.out _ _⟩
  have HML := Lib.hid hml
  have hr := Lib.hid (show (Pl.mk k n t l).eqB (.mk k n t l') = Pls.eqB l l' by rw [HR.out]; simp)
  have IH := Lib.hid ih
  have HL := Lib.hid hl
  have HL' := Lib.hid hl'
  rw [hml]
  clear ih hl hl' hs hs' hml hlen'
  go_enter Tryz.func19, Tryz.ntmps19
  go_wp2
  generalize hX : Obj.cells #[.int .i64 k, .int .i64 n, .string t, .slice A l.length c] 34 = X at *
  generalize hX' : Obj.cells #[.int .i64 k, .int .i64 n, .string t, .slice A' l.length c'] 34 = X' at *
  have HX := Lib.hid hX
  have HX' := Lib.hid hX'
  have HB0 := Lib.hid (((Below.refl w.heap.size w).alloc (Nat.le_refl _) X).alloc (by simp) X')
  have D1 := Lib.hid (heap_alloc2 w X X').1
  have D2 := Lib.hid (heap_alloc2 w X X').2
  clear hX hX'
  go_loopw [5] (fun s5 wr => ∃ (j : Nat), j ≤ l.length ∧ s5 = .int .i64 (j : Int) ∧ Pls.eqB l l' = Pls.eqB (l.drop j) (l'.drop j) ∧ wr.heap[w.heap.size]? = some X ∧ wr.heap[w.heap.size + 1]? = some X' ∧ Below w.heap.size w wr) (fun s5 _ => l.length - (intOf s5).toNat)
  case atStart => exact ⟨0, Nat.zero_le _, rfl, rfl, D1.out, D2.out, HB0.out⟩
  case round =>
    obtain ⟨j, hj, rfl, hsame, hb1, hb2, hbel⟩ := hrel
    have HM := Lib.hid hsame
    have B1 := Lib.hid hb1
    have B2 := Lib.hid hb2
    have HB := Lib.hid hbel
    have hsz : w.heap.size + 1 < wr.heap.size := lt_of_block hb2
    clear hb1 hb2 hbel hsame
    have c3 : wr.cell? ⟨w.heap.size, 3, none⟩ = some (.slice A l.length c) := cell_of_row _ _ 3 _ _ _ (by rw [B1.out, ← HX.out])
    by_cases hlt : j < l.length
    · have hltm : j < l'.length := by have := HML.out; omega
      obtain ⟨b1, o1, rfl⟩ := HL.out.head (by omega)
      obtain ⟨b2, o2, rfl⟩ := HL'.out.head (by omega)
      have hl1 := (HL.out.below HB.out (by omega : w.heap.size ≤ wr.heap.size)).at_ j hlt
      have hl2 := (HL'.out.below HB.out (by omega : w.heap.size ≤ wr.heap.size)).at_ j hltm
      have hsn := Lib.hid hl1.sane
      have hsn' := Lib.hid hl2.sane
      have HD := Lib.hid (Pls.eqB_drop hlt hltm)
      obtain ⟨_, d0, d1, d2, _, A1, c1, d3, hll1⟩ := hl1.parts
      obtain ⟨_, e0, e1, e2, _, A2, c2, e3, hll2⟩ := hl2.parts
      have KE := Lib.hid (fun x : Ext wr => IH.out j hlt l'[j] A1 A2 c1 c2 x.now hsn.out hsn'.out (hll1.below x.ok x.ok.size) (hll2.below x.ok x.ok.size))
      unfold Pl.arg at KE
      have D0 := Ext.cell (w := wr) d0
      have D1 := Ext.cell (w := wr) d1
      have D2 := Ext.cell (w := wr) d2
      have D3 := Ext.cell (w := wr) d3
      have E0 := Ext.cell (w := wr) e0
      have E1 := Ext.cell (w := wr) e1
      have E2 := Ext.cell (w := wr) e2
      have E3 := Ext.cell (w := wr) e3
      have F1 := Ext.cell (w := wr) (p := ⟨w.heap.size, 3, none⟩) c3
      have F2 := Ext.cell (w := wr) (p := ⟨w.heap.size + 1, 3, none⟩) (v := .slice (some ⟨b2, o2, none⟩) l.length c') (cell_of_row _ _ 3 _ _ _ (by show wr.heap[w.heap.size + 1]? = _; rw [B2.out, ← HX'.out]))
      clear d0 d1 d2 d3 e0 e1 e2 e3 hl1 hl2 hll1 hll2
      generalize hq : l[j].eqB l'[j] = q at *
      generalize l[j] = p1 at *
      generalize l'[j] = p2 at *
      go_wp2
      refine wp_region_ext (by kernel_rfl) (by kernel_rfl) ?_
      go_big_quiet_step (fail)
      go_big_quiet_step (fail)
      go_big_quiet_step (fail)
      go_big_quiet_step (fail)
      go_big_quiet_step (fail)
      go_big_quiet_step (fail)
      go_big_quiet_step (fail)
      go_big_quiet_step (fail)
      go_big_quiet_step (fail)
      go_big_quiet_step (fail)
      go_big_quiet_step ((go_at_call 19; exact Calls.ext_of (KE.out _)))
      go_big_quiet_step (fail)
      refine wpQuiet_nil ?_
      rintro _ ⟨z, rfl⟩
      have hz := z.ok
      have hb1 := Lib.hid ((hz.block w.heap.size (by omega)).trans B1.out)
      have hb2 := Lib.hid ((hz.block (w.heap.size + 1) (by omega)).trans B2.out)
      have HB2 := Lib.hid (HB.out.trans (hz.mono HB.out.size))
      clear hz D0 D1 D2 D3 E0 E1 E2 E3 F1 F2 KE c3
      generalize z.now = w2 at *
      cases q
      · have hr2 := Lib.hid (show (Pl.mk k n t l).eqB (.mk k n t l') = false by rw [hr.out, HM.out, HD.out]; rfl)
        go_wp2
        go_ret
        exact ⟨by rw [hr2.out]; rfl, HB2.out⟩
      · have HN := Lib.hid (show Pls.eqB l l' = Pls.eqB (l.drop (j + 1)) (l'.drop (j + 1)) by rw [HM.out, HD.out]; rfl)
        go_wp2
        go_roundw
        case rel => exact ⟨j + 1, by omega, by go_num, HN.out, hb1.out, hb2.out, HB2.out⟩
        case measure => simp [intOf]; omega
    · have hr2 := Lib.hid (show (Pl.mk k n t l).eqB (.mk k n t l') = true by
        rw [hr.out, HM.out, List.drop_of_length_le (by omega), List.drop_of_length_le (by have := HML.out; omega)]
        rfl)
      go_wp2
      go_ret
      exact ⟨by rw [hr2.out]; rfl, HB.out⟩
theorem eqB_all : ∀ (z : Nat) (p : Pl), SizeOf.sizeOf p ≤ z → EqAll p := by
  intro z
  induction z with
  | zero => intro p h; cases p; simp at h
  | succ z ih =>
    intro p hp
    obtain ⟨k, n, t, l⟩ := p
    exact eqB_step k n t l (fun j hj => ih l[j] (by have := Pl.size_lt (k := k) (n := n) (t := t) hj; omega))
/-- espalierlaw2.Eq of any two. -/
theorem law2_EqB (p q : Pl) (A A' : Option Addr) (c c' : Nat) (w : World) (h0 : p.sane) (h0' : q.sane) (h1 : Pls.lies w w.heap.size p.list A) (h2 : Pls.lies w w.heap.size q.list A') : Calls Tryz.prog 19 #[p.arg A c, q.arg A' c'] w (Bel (.bool (p.eqB q)) w) :=
  eqB_all _ p (Nat.le_refl _) q A A' c c' w h0 h0' h1 h2
end Go.Proofs.YtjdpnljaichdmaaGreatDoor
