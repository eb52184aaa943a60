/-
  node.ables, node.Abilities: walks, for a node of any type, given what each look at it says. Conditions: the handle lies in memory.
-/
import Derived.Test.YtcldbjgikkfnbaaGreatDoorCNodeLay
import Derived.Test.YtcldbjgikkfnbaaGreatDoorCKitMay
import Derived.Deep.QuietTactic
import Derived.BigQuiet
namespace Go.Proofs.YtcldbjgikkfnbaaGreatDoor
open Go.RowKit
set_option linter.unusedVariables false

def ableNames : List ByteArray := [⟨#[76, 105, 116, 101, 114, 97, 108]⟩, ⟨#[83, 116, 114, 105, 99, 116]⟩, ⟨#[76, 97, 122, 121]⟩, ⟨#[66, 105, 110, 100, 101, 114]⟩, ⟨#[85, 115, 101, 114]⟩, ⟨#[67, 97, 108, 108, 101, 114]⟩, ⟨#[80, 117, 114, 101]⟩, ⟨#[84, 111, 116, 97, 108]⟩, ⟨#[83, 111, 114, 116, 101, 100]⟩, ⟨#[83, 117, 103, 97, 114]⟩, ⟨#[70, 114, 97, 109, 101, 100]⟩, ⟨#[87, 114, 97, 112, 112, 101, 100]⟩, ⟨#[79, 114, 105, 103, 105, 110]⟩, ⟨#[79, 112, 97, 113, 117, 101]⟩]
def ableHas : List FuncId := [111, 113, 115, 117, 119, 121, 123, 125, 127, 129, 131, 133, 135, 137]
def ableMust : List FuncId := [112, 114, 116, 118, 120, 122, 124, 126, 128, 130, 132, 134, 136, 138]
/-- One ability's three cells. -/
def ableCells (k : Nat) : List Value := [.string (ableNames.getD k ByteArray.empty), .func (.func (ableHas.getD k 0)) #[] #[], .func (.func (ableMust.getD k 0)) #[] #[]]
def ablesObj : Obj := .cells ((List.range 14).flatMap ableCells).toArray 226
set_option maxRecDepth 100000 in
set_option maxHeartbeats 4000000 in
theorem node_ables (w : World) : Calls Tryz.prog 101 #[] w fun e w' => e = .returned (.slice (some ⟨w.heap.size, 0, none⟩) 14 14) ∧ w.alloc ablesObj = w' := by
  go_enter Tryz.func101, Tryz.ntmps101
  go_wp2
  go_ret
  exact ⟨rfl, rfl⟩
theorem node_holds (k : Kd) (w : World) (h : k.at_ w) : Calls Tryz.prog 97 #[k.ptr] w fun e w' => e = .returned (.bool true) ∧ w = w' := by
  have KN := Lib.hid (node_Node k w h)
  obtain ⟨T, p, hn⟩ := h.2
  rw [hn] at KN
  clear h hn
  unfold Kd.ptr
  generalize k.blk = kb at *
  go_enter Tryz.func97, Tryz.ntmps97
  go_wp2_with fail
  refine KN.out.mono ?_
  rintro e w1 ⟨rfl, rfl⟩
  go_wp2
  go_ret
  exact ⟨rfl, rfl⟩
theorem able_cells : ∀ j, j < 14 → ∀ i, i < 3 → ((List.range 14).flatMap ableCells)[j * 3 + i]? = (ableCells j)[i]? := by
  intro j hj i hi
  have : j = 0 ∨ j = 1 ∨ j = 2 ∨ j = 3 ∨ j = 4 ∨ j = 5 ∨ j = 6 ∨ j = 7 ∨ j = 8 ∨ j = 9 ∨ j = 10 ∨ j = 11 ∨ j = 12 ∨ j = 13 := by omega
  have hi3 : i = 0 ∨ i = 1 ∨ i = 2 := by omega
  rcases this with rfl | rfl | rfl | rfl | rfl | rfl | rfl | rfl | rfl | rfl | rfl | rfl | rfl | rfl <;> rcases hi3 with rfl | rfl | rfl <;> rfl
theorem able_call0 (args : Array Value) (w : World) : (callFunc 111 args).run Tryz.prog w = .ok (.enter 111 args) w := by kernel_rfl
theorem able_call1 (args : Array Value) (w : World) : (callFunc 113 args).run Tryz.prog w = .ok (.enter 113 args) w := by kernel_rfl
theorem able_call2 (args : Array Value) (w : World) : (callFunc 115 args).run Tryz.prog w = .ok (.enter 115 args) w := by kernel_rfl
theorem able_call3 (args : Array Value) (w : World) : (callFunc 117 args).run Tryz.prog w = .ok (.enter 117 args) w := by kernel_rfl
theorem able_call4 (args : Array Value) (w : World) : (callFunc 119 args).run Tryz.prog w = .ok (.enter 119 args) w := by kernel_rfl
theorem able_call5 (args : Array Value) (w : World) : (callFunc 121 args).run Tryz.prog w = .ok (.enter 121 args) w := by kernel_rfl
theorem able_call6 (args : Array Value) (w : World) : (callFunc 123 args).run Tryz.prog w = .ok (.enter 123 args) w := by kernel_rfl
theorem able_call7 (args : Array Value) (w : World) : (callFunc 125 args).run Tryz.prog w = .ok (.enter 125 args) w := by kernel_rfl
theorem able_call8 (args : Array Value) (w : World) : (callFunc 127 args).run Tryz.prog w = .ok (.enter 127 args) w := by kernel_rfl
theorem able_call9 (args : Array Value) (w : World) : (callFunc 129 args).run Tryz.prog w = .ok (.enter 129 args) w := by kernel_rfl
theorem able_call10 (args : Array Value) (w : World) : (callFunc 131 args).run Tryz.prog w = .ok (.enter 131 args) w := by kernel_rfl
theorem able_call11 (args : Array Value) (w : World) : (callFunc 133 args).run Tryz.prog w = .ok (.enter 133 args) w := by kernel_rfl
theorem able_call12 (args : Array Value) (w : World) : (callFunc 135 args).run Tryz.prog w = .ok (.enter 135 args) w := by kernel_rfl
theorem able_call13 (args : Array Value) (w : World) : (callFunc 137 args).run Tryz.prog w = .ok (.enter 137 args) w := by kernel_rfl
theorem able_call : ∀ j, j < 14 → ∀ (args : Array Value) (w : World), (callFunc (ableHas.getD j 0) args).run Tryz.prog w = .ok (.enter (ableHas.getD j 0) args) w
  | 0, _ => able_call0
  | 1, _ => able_call1
  | 2, _ => able_call2
  | 3, _ => able_call3
  | 4, _ => able_call4
  | 5, _ => able_call5
  | 6, _ => able_call6
  | 7, _ => able_call7
  | 8, _ => able_call8
  | 9, _ => able_call9
  | 10, _ => able_call10
  | 11, _ => able_call11
  | 12, _ => able_call12
  | 13, _ => able_call13
  | n + 14, h => absurd h (by omega)
theorem info_string : ∃ i, Tryz.prog.info? 9 = some i ∧ i.zero = some (.string ⟨#[]⟩) ∧ i.size = 1 ∧ i.bytes = 16 := by
  have h : (Tryz.prog.info? 9).map (fun i => (i.zero, i.size, i.bytes)) = some (some (.string ⟨#[]⟩), 1, 16) := by kernel_rfl
  cases hh : Tryz.prog.info? 9 with
  | none => rw [hh] at h; cases h
  | some i =>
    rw [hh] at h
    simp only [Option.map_some, Option.some.injEq, Prod.mk.injEq] at h
    exact ⟨i, rfl, h.1, h.2.1, h.2.2⟩
/-- The names of those that are there, up to a number. -/
def abilTo (B : Nat → Bool) (n : Nat) : List ByteArray := ((List.range n).filter B).map (fun j => ableNames.getD j ByteArray.empty)
theorem abilTo_succ (B : Nat → Bool) (n : Nat) : abilTo B (n + 1) = abilTo B n ++ (if B n = true then [ableNames.getD n ByteArray.empty] else []) := by
  unfold abilTo
  rw [List.range_succ, List.filter_append, List.map_append]
  congr 1
  cases h : B n <;> simp [List.filter, h]
theorem abilTo_le (B : Nat → Bool) (n : Nat) : (abilTo B n).length ≤ n := by
  unfold abilTo
  rw [List.length_map]
  exact Nat.le_trans (List.length_filter_le _ _) (by simp)
def AbilPost (B : Nat → Bool) (w : World) (e : Ending) (w' : World) : Prop := ∃ A c, e = .returned (.slice A (abilTo B 14).length c) ∧ NamesIn w' (fresh w w') (abilTo B 14) A ∧ Below w.heap.size w w'
/-- What each look at a node of type T says. -/
def Looks (T : TypeId) (v : Value) (B : Nat → Bool) : Prop := ∀ j, j < 14 → ∀ w, Calls Tryz.prog (ableHas.getD j 0) #[.iface T v] w fun e w' => e = .returned (.bool (B j)) ∧ w = w'
set_option maxRecDepth 100000 in
set_option maxHeartbeats 4000000 in
theorem node_Abilities (k : Kd) (T : TypeId) (v : Value) (hn : k.n = .iface T v) (B : Nat → Bool) (hB : Looks T v B) (w : World) (hk : k.at_ w) : Calls Tryz.prog 77 #[k.ptr] w (AbilPost B w) := by
  obtain ⟨i0, hi, hz0, hz1, hz2⟩ := info_string
  have KH := Lib.hid (node_holds k w hk)
  have HL := Lib.hid hB
  have hc0 : w.heap[k.blk]? = some (.cells #[.iface T v] 202) := by rw [hk.1, hn]
  have HC := Lib.hid hc0
  clear hk hn hB hc0
  unfold Kd.ptr at KH ⊢
  generalize k.blk = kb at *
  go_enter Tryz.func77, Tryz.ntmps77
  go_wp2_with fail
  refine KH.out.mono ?_
  rintro e w1 ⟨rfl, rfl⟩
  go_wp2_with fail
  refine (node_ables w).mono ?_
  rintro e w1 ⟨rfl, rfl⟩
  have hR0 := heap_alloc_new w ablesObj
  have HB0 := Lib.hid ((Below.refl w.heap.size w).alloc (Nat.le_refl _) ablesObj)
  go_wp2
  go_loopw [11, 3] (fun s11 s3 wr => ∃ (j : Nat), j ≤ 14 ∧ s11 = .int .i64 (j : Int) ∧ wr.ownsRow (w.heap.size + 1) 9 1 s3 (abilTo B j).length ((abilTo B j).map Value.string) ∧ wr.heap[w.heap.size]? = some ablesObj ∧ Below w.heap.size w wr) (fun s11 _ _ => 14 - (intOf s11).toNat)
  case atStart => exact ⟨0, by omega, rfl, World.ownsRow_nil _ _ _ _, hR0, HB0.out⟩
  case round =>
    obtain ⟨j, hj, rfl, hown, hR, hbel⟩ := hrel
    have HO := Lib.hid hown
    have HR := Lib.hid hR
    have HB := Lib.hid hbel
    have hws := hbel.size
    have hRlt := lt_of_block hR
    clear hown hbel
    by_cases hlt : j < 14
    · have hcell : ∀ i, i < 3 → wr.cell? ⟨w.heap.size, j * 3 + i, none⟩ = (ableCells j)[i]? := fun i hi => by
        rw [← able_cells j hlt i hi]
        unfold ablesObj at hR
        simp [World.cell?, hR]
      have e0 : wr.cell? ⟨w.heap.size, j * 3, none⟩ = some (.string (ableNames.getD j ByteArray.empty)) := hcell 0 (by omega)
      have e1 : wr.cell? ⟨w.heap.size, j * 3 + 1, none⟩ = some (.func (.func (ableHas.getD j 0)) #[] #[]) := hcell 1 (by omega)
      have e2 : wr.cell? ⟨w.heap.size, j * 3 + 2, none⟩ = some (.func (.func (ableMust.getD j 0)) #[] #[]) := hcell 2 (by omega)
      have hcall := able_call j hlt
      have hstf : ∀ (a : Addr) (F : FuncId) (w : World), (store a (.func (.func F) #[] #[])).run Tryz.prog w = stored Tryz.prog w a (.func (.func F) #[] #[]) .plain := fun a F w => run_store Tryz.prog w a _ .plain rfl
      have HLJ := Lib.hid (HL.out j hlt)
      have h0 : wr.cell? ⟨kb, 0, none⟩ = some (.iface T v) := (HB.out.cell (p := ⟨kb, 0, none⟩) (lt_of_block HC.out)).trans (by simp [World.cell?, HC.out])
      have hnext := Lib.hid (abilTo_succ B j)
      have hle := Lib.hid (abilTo_le B j)
      clear hcell hR
      generalize ableNames.getD j ByteArray.empty = nm at *
      generalize ableHas.getD j 0 = F at *
      generalize ableMust.getD j 0 = F2 at *
      go_wp2
      have HX1 := Lib.hid ((Below.refl wr.heap.size wr).alloc (Nat.le_refl _) (.cells #[.string nm, .func (.func F) #[] #[], .func (.func F2) #[] #[]] 226))
      have c0 := fun i => show (wr.alloc (.cells #[.string nm, .func (.func F) #[] #[], .func (.func F2) #[] #[]] 226)).cell? ⟨wr.heap.size, i, none⟩ = (#[.string nm, .func (.func F) #[] #[], .func (.func F2) #[] #[]] : Array Value)[i]? by exact World.cell?_alloc_new _ _ _ _
      have h1 := alloc_cell (.cells #[.string nm, .func (.func F) #[] #[], .func (.func F2) #[] #[]] 226) h0
      have hs1 := size_alloc wr (.cells #[.string nm, .func (.func F) #[] #[], .func (.func F2) #[] #[]] 226)
      clear e0 e1 e2 h0
      generalize wr.alloc (.cells #[.string nm, .func (.func F) #[] #[], .func (.func F2) #[] #[]] 226) = w1 at *
      have d0 : w1.cell? ⟨wr.heap.size, 0, none⟩ = some (.string nm) := c0 0
      have d1 : w1.cell? ⟨wr.heap.size, 1, none⟩ = some (.func (.func F) #[] #[]) := c0 1
      clear c0
      generalize hq : B j = q at *
      go_quiet (exact Calls.quiet_of_same ((HLJ.out _).mono fun _ _ ⟨a, b⟩ => ⟨a, b.symm⟩))
      have HX2 : Hid (Below wr.heap.size wr (w1.drewN nq)) := Lib.hid (below_drewN HX1.out nq)
      have d2 : (w1.drewN nq).cell? ⟨wr.heap.size, 0, none⟩ = some (.string nm) := d0
      have hs2 : (w1.drewN nq).heap.size = wr.heap.size + 1 := hs1
      have HS2 := Lib.hid hs2
      have hs2' : wr.heap.size < (w1.drewN nq).heap.size := by omega
      clear d0 d1 h1 hs1 HX1 hs2
      generalize w1.drewN nq = w2 at *
      have HB2 := Lib.hid (HB.out.trans (HX2.out.mono hws))
      have HR2 : Hid (w2.heap[w.heap.size]? = some ablesObj) := Lib.hid ((HX2.out.block _ hRlt).trans HR.out)
      have HO2 := Lib.hid (own_below HO.out HX2.out)
      cases q
      · have hsame : Hid (abilTo B (j + 1) = abilTo B j) := Lib.hid (by rw [hnext.out]; simp)
        go_wp2
        go_roundw
        case rel => exact ⟨j + 1, by omega, by go_num, by rw [hsame.out]; exact HO2.out, HR2.out, HB2.out⟩
        case measure => simp [intOf]; omega
      · have hmore : Hid (abilTo B (j + 1) = abilTo B j ++ [nm]) := Lib.hid (by rw [hnext.out]; simp)
        have hl14 : (abilTo B j).length ≤ 14 := Nat.le_trans hle.out (by omega)
        go_wp2_with (at_builtin; refine wpList_append_lies _ rfl _ _ 121 rfl (w.heap.size + 1) 9 i0 _ 1 16 Tryz.underlying121 hi hz0 hz1 hz2 rfl (by decide) _ (abilTo B j).length ((abilTo B j).map Value.string) rfl (HO2.out.alloc _) ⟨w2.heap.size, 0, none⟩ 1 1 [.string nm] rfl rfl (one_new w2 _ _) (by simp [Value.oneCell']) (by decide) (by unfold maxLen; omega) (by omega) (by simp; omega) (w2.heap.size + 1) (by simp) ?_)
        intro g cap w3 hown3 hgr3 hat hlt3
        have HO3 := Lib.hid hown3
        have HR3 : Hid (w3.heap[w.heap.size]? = some ablesObj) := Lib.hid ((hgr3.block _ (by rw [size_alloc]; omega) (fun e => by have := (HO.out.lt _ e.symm).1; omega)).trans ((Below.heap_alloc _ _ _ (by omega)).trans HR2.out))
        have HB3 := Lib.hid ((HB2.out.alloc HB2.out.size _).grown hgr3 (by rw [size_alloc]; omega) (fun q e => by have := (HO.out.lt q e).1; omega))
        clear hown3 hgr3 hat
        go_wp2
        go_roundw
        case rel => exact ⟨j + 1, by omega, by go_num, by rw [hmore.out, List.length_append, List.map_append]; exact HO3.out, HR3.out, HB3.out⟩
        case measure => simp [intOf]; omega
    · have hj14 : j = 14 := by omega
      subst hj14
      obtain ⟨A, c, rfl, hnm⟩ := names_of_own HO.out (g0 := w.heap.size) (g1 := wr.heap.size) (by omega) (Nat.le_refl _)
      have HN := Lib.hid hnm
      clear hnm
      go_wp2
      go_ret
      exact ⟨A, c, rfl, HN.out, HB.out⟩
end Go.Proofs.YtcldbjgikkfnbaaGreatDoor
