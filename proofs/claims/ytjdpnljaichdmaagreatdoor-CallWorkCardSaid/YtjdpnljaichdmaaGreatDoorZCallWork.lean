/-
  The last texts of a proof in one: NodeLooks, TyCallTo, TyCallBy, KitLit, CallKit, Law13Begun, LawOps13, CallWorkC, PCallWork. Conditions: each text names its own.
-/
import Derived.Test.YtjdpnljaichdmaaGreatDoorNodeBase
import Derived.Stop.Asserts
import Derived.Test.YtjdpnljaichdmaaGreatDoorKitOf
import Derived.Test.YtjdpnljaichdmaaGreatDoorLawMade13
import Derived.Test.YtjdpnljaichdmaaGreatDoorMkCallTo
import Derived.Test.YtjdpnljaichdmaaGreatDoorMkCallBy
import Derived.Test.YtjdpnljaichdmaaGreatDoorOpAts
import Derived.Test.YtjdpnljaichdmaaGreatDoorLawWorks13
import Derived.Test.YtjdpnljaichdmaaGreatDoorOpRow
import Derived.Test.YtjdpnljaichdmaaGreatDoorPlOps13
/-
  What the looks of node.ables at a node say: an assertion each: walks. Printed by a program of mine (gen_looks.py). Conditions: none.
-/
namespace Go.Proofs.YtjdpnljaichdmaaGreatDoor
open Go.RowKit
set_option linter.unusedVariables false

/-- Does a type hold an interface's methods? -/
abbrev holds (T I : TypeId) (b : Bool) : Prop := (Tryz.prog.info? T).map (fun i => (lacking (Tryz.prog.methodsAt I) i.methods).isEmpty) = some b
theorem assert_of {T I : TypeId} {b : Bool} (hu : Tryz.prog.underlying I = some (.interface (Tryz.prog.methodsAt I))) (hz : (Tryz.prog.info? I).map (·.zero) = some (some .nilIface)) (h : holds T I b) (v : Value) :
    ∃ x, ∀ (xT : TypeId) (w : World), (Instr.typeAssert (.iface T v) xT I true).run Tryz.prog w = .ok (.tuple #[x, .bool b]) w := by
  cases b
  · exact ⟨.nilIface, fun xT w => run_typeAssert_lacksB hu h hz v xT w⟩
  · exact ⟨.iface T v, fun xT w => run_typeAssert_hasB hu h v xT w⟩
theorem look_Literal {T : TypeId} {b : Bool} (h : holds T 236 b) (v : Value) (w : World) : Calls Tryz.prog 110 #[.iface T v] w fun e w' => e = .returned (.bool b) ∧ w = w' := by
  obtain ⟨x, hx⟩ := assert_of (by kernel_rfl) (by kernel_rfl) h v
  clear h
  go_enter Tryz.func110, Tryz.ntmps110
  go_wp2
  go_ret
  exact ⟨rfl, rfl⟩
theorem look_Strict {T : TypeId} {b : Bool} (h : holds T 84 b) (v : Value) (w : World) : Calls Tryz.prog 112 #[.iface T v] w fun e w' => e = .returned (.bool b) ∧ w = w' := by
  obtain ⟨x, hx⟩ := assert_of (by kernel_rfl) (by kernel_rfl) h v
  clear h
  go_enter Tryz.func112, Tryz.ntmps112
  go_wp2
  go_ret
  exact ⟨rfl, rfl⟩
theorem look_Lazy {T : TypeId} {b : Bool} (h : holds T 72 b) (v : Value) (w : World) : Calls Tryz.prog 114 #[.iface T v] w fun e w' => e = .returned (.bool b) ∧ w = w' := by
  obtain ⟨x, hx⟩ := assert_of (by kernel_rfl) (by kernel_rfl) h v
  clear h
  go_enter Tryz.func114, Tryz.ntmps114
  go_wp2
  go_ret
  exact ⟨rfl, rfl⟩
theorem look_Binder {T : TypeId} {b : Bool} (h : holds T 64 b) (v : Value) (w : World) : Calls Tryz.prog 116 #[.iface T v] w fun e w' => e = .returned (.bool b) ∧ w = w' := by
  obtain ⟨x, hx⟩ := assert_of (by kernel_rfl) (by kernel_rfl) h v
  clear h
  go_enter Tryz.func116, Tryz.ntmps116
  go_wp2
  go_ret
  exact ⟨rfl, rfl⟩
theorem look_User {T : TypeId} {b : Bool} (h : holds T 239 b) (v : Value) (w : World) : Calls Tryz.prog 118 #[.iface T v] w fun e w' => e = .returned (.bool b) ∧ w = w' := by
  obtain ⟨x, hx⟩ := assert_of (by kernel_rfl) (by kernel_rfl) h v
  clear h
  go_enter Tryz.func118, Tryz.ntmps118
  go_wp2
  go_ret
  exact ⟨rfl, rfl⟩
theorem look_Caller {T : TypeId} {b : Bool} (h : holds T 61 b) (v : Value) (w : World) : Calls Tryz.prog 120 #[.iface T v] w fun e w' => e = .returned (.bool b) ∧ w = w' := by
  obtain ⟨x, hx⟩ := assert_of (by kernel_rfl) (by kernel_rfl) h v
  clear h
  go_enter Tryz.func120, Tryz.ntmps120
  go_wp2
  go_ret
  exact ⟨rfl, rfl⟩
theorem look_Pure {T : TypeId} {b : Bool} (h : holds T 75 b) (v : Value) (w : World) : Calls Tryz.prog 122 #[.iface T v] w fun e w' => e = .returned (.bool b) ∧ w = w' := by
  obtain ⟨x, hx⟩ := assert_of (by kernel_rfl) (by kernel_rfl) h v
  clear h
  go_enter Tryz.func122, Tryz.ntmps122
  go_wp2
  go_ret
  exact ⟨rfl, rfl⟩
theorem look_Total {T : TypeId} {b : Bool} (h : holds T 242 b) (v : Value) (w : World) : Calls Tryz.prog 124 #[.iface T v] w fun e w' => e = .returned (.bool b) ∧ w = w' := by
  obtain ⟨x, hx⟩ := assert_of (by kernel_rfl) (by kernel_rfl) h v
  clear h
  go_enter Tryz.func124, Tryz.ntmps124
  go_wp2
  go_ret
  exact ⟨rfl, rfl⟩
theorem look_Sorted {T : TypeId} {b : Bool} (h : holds T 245 b) (v : Value) (w : World) : Calls Tryz.prog 126 #[.iface T v] w fun e w' => e = .returned (.bool b) ∧ w = w' := by
  obtain ⟨x, hx⟩ := assert_of (by kernel_rfl) (by kernel_rfl) h v
  clear h
  go_enter Tryz.func126, Tryz.ntmps126
  go_wp2
  go_ret
  exact ⟨rfl, rfl⟩
theorem look_Sugar {T : TypeId} {b : Bool} (h : holds T 248 b) (v : Value) (w : World) : Calls Tryz.prog 128 #[.iface T v] w fun e w' => e = .returned (.bool b) ∧ w = w' := by
  obtain ⟨x, hx⟩ := assert_of (by kernel_rfl) (by kernel_rfl) h v
  clear h
  go_enter Tryz.func128, Tryz.ntmps128
  go_wp2
  go_ret
  exact ⟨rfl, rfl⟩
theorem look_Framed {T : TypeId} {b : Bool} (h : holds T 251 b) (v : Value) (w : World) : Calls Tryz.prog 130 #[.iface T v] w fun e w' => e = .returned (.bool b) ∧ w = w' := by
  obtain ⟨x, hx⟩ := assert_of (by kernel_rfl) (by kernel_rfl) h v
  clear h
  go_enter Tryz.func130, Tryz.ntmps130
  go_wp2
  go_ret
  exact ⟨rfl, rfl⟩
theorem look_Wrapped {T : TypeId} {b : Bool} (h : holds T 254 b) (v : Value) (w : World) : Calls Tryz.prog 132 #[.iface T v] w fun e w' => e = .returned (.bool b) ∧ w = w' := by
  obtain ⟨x, hx⟩ := assert_of (by kernel_rfl) (by kernel_rfl) h v
  clear h
  go_enter Tryz.func132, Tryz.ntmps132
  go_wp2
  go_ret
  exact ⟨rfl, rfl⟩
theorem look_Origin {T : TypeId} {b : Bool} (h : holds T 257 b) (v : Value) (w : World) : Calls Tryz.prog 134 #[.iface T v] w fun e w' => e = .returned (.bool b) ∧ w = w' := by
  obtain ⟨x, hx⟩ := assert_of (by kernel_rfl) (by kernel_rfl) h v
  clear h
  go_enter Tryz.func134, Tryz.ntmps134
  go_wp2
  go_ret
  exact ⟨rfl, rfl⟩
theorem look_Opaque {T : TypeId} {b : Bool} (h : holds T 260 b) (v : Value) (w : World) : Calls Tryz.prog 136 #[.iface T v] w fun e w' => e = .returned (.bool b) ∧ w = w' := by
  obtain ⟨x, hx⟩ := assert_of (by kernel_rfl) (by kernel_rfl) h v
  clear h
  go_enter Tryz.func136, Tryz.ntmps136
  go_wp2
  go_ret
  exact ⟨rfl, rfl⟩
/-- The fourteen, of one type. -/
def looksB (T : TypeId) (B : Nat → Bool) : Prop := holds T 236 (B 0) ∧ holds T 84 (B 1) ∧ holds T 72 (B 2) ∧ holds T 64 (B 3) ∧ holds T 239 (B 4) ∧ holds T 61 (B 5) ∧ holds T 75 (B 6) ∧ holds T 242 (B 7) ∧ holds T 245 (B 8) ∧ holds T 248 (B 9) ∧ holds T 251 (B 10) ∧ holds T 254 (B 11) ∧ holds T 257 (B 12) ∧ holds T 260 (B 13)
theorem looks_of {T : TypeId} {B : Nat → Bool} (h : looksB T B) (v : Value) : Looks T v B := by
  obtain ⟨h0, h1, h2, h3, h4, h5, h6, h7, h8, h9, h10, h11, h12, h13⟩ := h
  intro j hj w
  match j, hj with
  | 0, _ => exact look_Literal h0 v w
  | 1, _ => exact look_Strict h1 v w
  | 2, _ => exact look_Lazy h2 v w
  | 3, _ => exact look_Binder h3 v w
  | 4, _ => exact look_User h4 v w
  | 5, _ => exact look_Caller h5 v w
  | 6, _ => exact look_Pure h6 v w
  | 7, _ => exact look_Total h7 v w
  | 8, _ => exact look_Sorted h8 v w
  | 9, _ => exact look_Sugar h9 v w
  | 10, _ => exact look_Framed h10 v w
  | 11, _ => exact look_Wrapped h11 v w
  | 12, _ => exact look_Origin h12 v w
  | 13, _ => exact look_Opaque h13 v w
  | n + 14, h => exact absurd h (by omega)
end Go.Proofs.YtjdpnljaichdmaaGreatDoor

/-
  The node type *call.to: its methods, what asserts to it. Printed by a program of mine (gen_looks.py). Conditions: none.
-/
namespace Go.Proofs.YtjdpnljaichdmaaGreatDoor
open Go.RowKit
set_option linter.unusedVariables false

def b_CallTo (j : Nat) : Bool := [false, false, false, false, false, true, false, false, false, false, false, false, false, false].getD j false
theorem disp_CallTo : Disp 127 := ⟨fun _ _ => by kernel_rfl, fun _ _ => by kernel_rfl, fun _ _ => by kernel_rfl, fun _ _ => by kernel_rfl, fun _ _ => by kernel_rfl⟩
theorem looks_CallTo (v : Value) : Looks 127 v b_CallTo := looks_of ⟨by unfold holds; kernel_rfl, by unfold holds; kernel_rfl, by unfold holds; kernel_rfl, by unfold holds; kernel_rfl, by unfold holds; kernel_rfl, by unfold holds; kernel_rfl, by unfold holds; kernel_rfl, by unfold holds; kernel_rfl, by unfold holds; kernel_rfl, by unfold holds; kernel_rfl, by unfold holds; kernel_rfl, by unfold holds; kernel_rfl, by unfold holds; kernel_rfl, by unfold holds; kernel_rfl⟩ v
theorem told_CallTo : abilTo b_CallTo 14 = [⟨#[67, 97, 108, 108, 101, 114]⟩] := by rfl
end Go.Proofs.YtjdpnljaichdmaaGreatDoor

/-
  The node type *call.by: its methods, what asserts to it. Printed by a program of mine (gen_looks.py). Conditions: none.
-/
namespace Go.Proofs.YtjdpnljaichdmaaGreatDoor
open Go.RowKit
set_option linter.unusedVariables false

def b_CallBy (j : Nat) : Bool := [false, false, false, true, false, true, false, false, false, false, false, false, false, false].getD j false
theorem disp_CallBy : Disp 130 := ⟨fun _ _ => by kernel_rfl, fun _ _ => by kernel_rfl, fun _ _ => by kernel_rfl, fun _ _ => by kernel_rfl, fun _ _ => by kernel_rfl⟩
theorem looks_CallBy (v : Value) : Looks 130 v b_CallBy := looks_of ⟨by unfold holds; kernel_rfl, by unfold holds; kernel_rfl, by unfold holds; kernel_rfl, by unfold holds; kernel_rfl, by unfold holds; kernel_rfl, by unfold holds; kernel_rfl, by unfold holds; kernel_rfl, by unfold holds; kernel_rfl, by unfold holds; kernel_rfl, by unfold holds; kernel_rfl, by unfold holds; kernel_rfl, by unfold holds; kernel_rfl, by unfold holds; kernel_rfl, by unfold holds; kernel_rfl⟩ v
theorem told_CallBy : abilTo b_CallBy 14 = [⟨#[66, 105, 110, 100, 101, 114]⟩, ⟨#[67, 97, 108, 108, 101, 114]⟩] := by rfl
end Go.Proofs.YtjdpnljaichdmaaGreatDoor

/-
  Rows that a text writes down: abilities ahead, each list a block, the rows behind. Plain. Conditions: none.
-/
namespace Go.Proofs.YtjdpnljaichdmaaGreatDoor
open Go.RowKit
set_option linter.unusedVariables false

def litNames (w : World) : List RowD → World
  | [] => w
  | r :: rs => litNames (w.alloc (.cells (r.abil.map Value.string).toArray 9)) rs
def litRows (b : Nat) : List RowD → List RowAt
  | [] => []
  | r :: rs => ⟨r, some ⟨b, 0, none⟩, r.abil.length⟩ :: litRows (b + 1) rs
def litWorld (w : World) (rs : List RowD) : World := (litNames w rs).alloc (.cells ((litRows w.heap.size rs).flatMap RowAt.cells).toArray 93)
theorem litRows_row : ∀ (rs : List RowD) (b : Nat), (litRows b rs).map RowAt.row = rs
  | [], _ => rfl
  | r :: rs, b => by simp [litRows, litRows_row rs]
theorem litRows_length (rs : List RowD) (b : Nat) : (litRows b rs).length = rs.length := by
  have := congrArg List.length (litRows_row rs b)
  simpa using this
theorem litNames_size : ∀ (rs : List RowD) (w : World), (litNames w rs).heap.size = w.heap.size + rs.length
  | [], w => rfl
  | r :: rs, w => by rw [litNames, litNames_size rs, size_alloc, List.length_cons]; omega
theorem litNames_below : ∀ (rs : List RowD) (B : Nat) (w0 w : World), B ≤ w.heap.size → Below B w0 w → Below B w0 (litNames w rs)
  | [], B, w0, w, _, h => h
  | r :: rs, B, w0, w, hB, h => litNames_below rs B w0 _ (by rw [size_alloc]; omega) (h.alloc hB _)
theorem litNames_at : ∀ (rs : List RowD) (w : World) (k : Nat) (hk : k < (litRows w.heap.size rs).length), ∃ b, (litRows w.heap.size rs)[k].at_ = some ⟨b, 0, none⟩ ∧ w.heap.size ≤ b ∧ b < w.heap.size + rs.length ∧ (litNames w rs).heap[b]? = some (.cells (((litRows w.heap.size rs)[k].row.abil).map Value.string).toArray 9)
  | [], w, k, hk => absurd hk (by simp [litRows])
  | r :: rs, w, 0, hk => ⟨w.heap.size, rfl, Nat.le_refl _, by simp, by
      have hb := litNames_below rs (w.heap.size + 1) _ (w.alloc (.cells (r.abil.map Value.string).toArray 9)) (by rw [size_alloc]; omega) (Below.refl _ _)
      exact (hb.block _ (Nat.lt_succ_self _)).trans (heap_alloc_new _ _)⟩
  | r :: rs, w, k + 1, hk => by
      have h := litNames_at rs (w.alloc (.cells (r.abil.map Value.string).toArray 9)) k (by rw [litRows_length]; rw [litRows_length] at hk; simpa using hk)
      obtain ⟨b, h1, h2, h3, h4⟩ := h
      rw [size_alloc] at h2 h3
      refine ⟨b, ?_, by omega, by simp; omega, ?_⟩
      · simpa [litRows, size_alloc] using h1
      · simpa [litRows, litNames, size_alloc] using h4
theorem cells_string (l : List ByteArray) (t : TypeId) {w : World} {b : Nat} (h : w.heap[b]? = some (.cells (l.map Value.string).toArray t)) (j : Nat) (hj : j < l.length) : w.cell? ⟨b, 0 + j, none⟩ = some (.string (l.getD j ByteArray.empty)) := by
  simp only [World.cell?, h, Nat.zero_add]
  simp [hj]
theorem lit_rows (w : World) (rs : List RowD) : RowsIn (litWorld w rs) (fresh w (litWorld w rs)) (litRows w.heap.size rs) (some ⟨w.heap.size + rs.length, 0, none⟩) ∧ Below w.heap.size w (litWorld w rs) := by
  have hs := litNames_size rs w
  have hx := heap_alloc_new (litNames w rs) (.cells ((litRows w.heap.size rs).flatMap RowAt.cells).toArray 93)
  have hz : (litWorld w rs).heap.size = w.heap.size + rs.length + 1 := by rw [litWorld, size_alloc, hs]
  rw [hs] at hx
  refine ⟨fun hl => ⟨_, 0, rfl, ⟨by omega, by omega⟩, fun k hk => ⟨fun j hj => ?_, fun hl2 => ?_⟩⟩, (litNames_below rs _ _ _ (Nat.le_refl _) (Below.refl _ _)).alloc (by omega) _⟩
  · have hf := flat_at (litRows w.heap.size rs) k hk j hj
    rw [← hf]
    show (litWorld w rs).cell? _ = _
    unfold litWorld
    simp only [World.cell?, hx, Nat.zero_add, List.getElem?_toArray]
    rfl
  · obtain ⟨b, h1, h2, h3, h4⟩ := litNames_at rs w k hk
    refine ⟨b, 0, h1, ⟨h2, by omega⟩, fun j hj => ?_⟩
    have h5 : (litWorld w rs).heap[b]? = some (.cells (((litRows w.heap.size rs)[k].row.abil).map Value.string).toArray 9) := (Below.heap_alloc _ _ _ (by rw [hs]; exact h3)).trans h4
    exact cells_string _ _ h5 j hj
theorem rows_at (w : World) (ts : List RowAt) {S : Nat → Prop} (hS : S w.heap.size) (hn : ∀ t ∈ ts, NamesIn (w.alloc (.cells (ts.flatMap RowAt.cells).toArray 93)) S t.row.abil t.at_) :
    RowsIn (w.alloc (.cells (ts.flatMap RowAt.cells).toArray 93)) S ts (some ⟨w.heap.size, 0, none⟩) := fun hl => ⟨_, 0, rfl, hS, fun k hk => ⟨fun j hj => by
  rw [← flat_at ts k hk j hj]
  simp only [World.cell?, heap_alloc_new, Nat.zero_add, List.getElem?_toArray]
  rfl, hn _ (List.getElem_mem hk)⟩⟩
theorem NamesIn.step {w0 w1 W : World} {B : Nat} {l : List ByteArray} {A : Option Addr} (h : NamesIn w1 (fresh w0 w1) l A) (h0 : B ≤ w0.heap.size) (hb : Below w1.heap.size w1 W) : NamesIn W (fun b => B ≤ b ∧ b < W.heap.size) l A :=
  h.keep (fun b o hs => hb.cell (p := ⟨b, o, none⟩) hs.2) (fun b hs => ⟨Nat.le_trans h0 hs.1, Nat.lt_of_lt_of_le hs.2 hb.size⟩)
end Go.Proofs.YtjdpnljaichdmaaGreatDoor

/-
  call.Kit: a walk. Conditions: none.
-/
namespace Go.Proofs.YtjdpnljaichdmaaGreatDoor
open Go.RowKit
set_option linter.unusedVariables false

def callRows : List RowD := [⟨⟨#[99, 97, 108, 108, 46, 116, 111]⟩, 0, -1, false, 2, [⟨#[67, 97, 108, 108, 101, 114]⟩]⟩, ⟨⟨#[99, 97, 108, 108, 46, 98, 121]⟩, 2, 2, false, 2, [⟨#[66, 105, 110, 100, 101, 114]⟩, ⟨#[67, 97, 108, 108, 101, 114]⟩]⟩]
theorem call_kitB : kitB ⟨#[99, 97, 108, 108]⟩ callRows = true := by kernel_rfl
theorem call_Kit (w : World) : Calls Tryz.prog 20 #[] w (KitPost ⟨#[99, 97, 108, 108]⟩ 39 callRows w) := by
  have HL := Lib.hid (lit_rows w callRows)
  have HB := Lib.hid HL.out.2
  have KN := Lib.hid (kit_new_of call_kitB 39 (litRows w.heap.size callRows) (litRows_row _ _) _ 2 (litWorld w callRows) (HL.out.1.keep (fun _ _ _ => rfl) (fun b hb => hb.2)))
  go_enter Tryz.func20, Tryz.ntmps20
  go_wp2_with fail
  refine KN.out.mono ?_
  rintro e w2 ⟨M, v, us, hM, rfl, hK, hu, hb2⟩
  have H1 := Lib.hid hK
  have H2 := Lib.hid hu
  have H3 := Lib.hid (HB.out.trans (hb2.mono HB.out.size))
  have H4 := Lib.hid (Nat.le_trans HB.out.size hM)
  clear hM hK hu hb2
  go_wp2
  go_ret
  exact ⟨M, v, us, H4.out, rfl, H1.out, H2.out, H3.out⟩
end Go.Proofs.YtjdpnljaichdmaaGreatDoor

/-
  espalierlaw13.begun: a walk. Conditions: none.
-/
namespace Go.Proofs.YtjdpnljaichdmaaGreatDoor
open Go.RowKit
set_option linter.unusedVariables false

theorem made13 {w : World} {M KB : Nat} {name : ByteArray} {vv : Value} {ts : List RowAt} {f : FuncId} {rs : List RowD} (h : KitIn w M KB name (.func (.func f) #[] #[]) vv ts) (hts : ts.map RowAt.row = rs) (hlen : rs.length ≤ 1000) (k : Nat) (hk : k < rs.length) (hdis : ∀ j (h : j < k), (rs[j]'(by omega)).kind ≠ rs[k].kind)
    {s : ByteArray} {T : TypeId} {B : Nat → Bool} (n : Nat) (hn : n ≤ 1000) (hm : ∀ ks : List Kd, ks.length = n → (∀ k ∈ ks, SameKid k) → MakeOk rs[k] s ks f T B) :
    Calls Tryz.prog 21 #[.pointer (some ⟨KB, 0, none⟩), .agg #[.string rs[k].kind, .int .i64 0, .string s, .slice none 0 0], .int .i64 (n : Int)] w (MadePost rs[k].kind s n T w) := by
  subst hts
  simp only [List.getElem_map] at hdis hm ⊢
  rw [List.length_map] at hk hlen
  exact law13_made h (by omega) k hk hdis n hn hm

theorem ok_call_by (ks : List Kd) (hl : ks.length = 2) (hs : ∀ k ∈ ks, SameKid k) : MakeOk callRows[1] ⟨#[120]⟩ ks 39 130 b_CallBy where
  row := (rowB_ok (name := ⟨#[99, 97, 108, 108]⟩) (by kernel_rfl)).1
  abil := by decide
  text := by kernel_rfl
  size := by decide
  many := by omega
  min_ := by rw [hl]; decide
  max_ := .inr (by rw [hl]; decide)
  call := fun args w => by kernel_rfl
  makes := mk_call_by _ ks (by omega)
  disp := disp_CallBy
  looks := fun nb => looks_CallBy _
  told := told_CallBy
  same := hs
theorem ok_call_to (ks : List Kd) (hl : ks.length = 0) (hs : ∀ k ∈ ks, SameKid k) : MakeOk callRows[0] ⟨#[102]⟩ ks 39 127 b_CallTo where
  row := (rowB_ok (name := ⟨#[99, 97, 108, 108]⟩) (by kernel_rfl)).1
  abil := by decide
  text := by kernel_rfl
  size := by decide
  many := by omega
  min_ := by rw [hl]; decide
  max_ := .inl rfl
  call := fun args w => by kernel_rfl
  makes := mk_call_to _ ks (by omega)
  disp := disp_CallTo
  looks := fun nb => looks_CallTo _
  told := told_CallTo
  same := hs
theorem calling_Calls {w : World} {nb : Nat} {s : ByteArray} (hc : w.cell? ⟨nb, 4, none⟩ = some (.string s)) : Calls Tryz.prog 179 #[.pointer (some ⟨nb, 4, none⟩)] w fun e w' => e = .returned (.string s) ∧ w = w' := by
  go_enter Tryz.func179, Tryz.ntmps179
  go_wp2
  go_ret
  exact ⟨rfl, rfl⟩
theorem call_Work (op : ByteArray) (v : Value) (w : World) : Calls Tryz.prog 22 #[.string op, v] w fun e w' => e = .returned (.tuple #[.nilIface, .int .i64 1, .string ⟨#[]⟩]) ∧ w = w' := by
  go_enter Tryz.func22, Tryz.ntmps22
  go_wp2
  go_ret3
  exact ⟨rfl, rfl⟩
set_option maxRecDepth 100000 in
set_option maxHeartbeats 8000000 in
theorem law13_begun (w : World) : Calls Tryz.prog 8 #[] w (Bel (.bool true) w) := by
  go_enter Tryz.func8, Tryz.ntmps8
  go_wp2_with fail
  refine (call_Kit w).mono ?_
  rintro e w1 ⟨M, v, ts, hM, rfl, hK, hts, hb⟩
  have HB1 := Lib.hid hb
  have K1 := Lib.hid (made13 hK hts (by decide) 1 (by decide) (by decide) 2 (by omega) ok_call_by)
  have K2 := Lib.hid (fun (w' : World) (hb' : Below w1.heap.size w1 w') => made13 (hK.below hb') hts (by decide) 0 (by decide) (fun j h => absurd h (by omega)) 0 (by omega) ok_call_to)
  clear hb hK hts hM
  go_wp2_with fail
  refine K1.out.mono ?_
  rintro e w2 ⟨nb1, vs1, hl1, rfl, hn1, hb2⟩
  have HB2 := Lib.hid hb2
  clear hn1 hl1 hb2 K1
  go_wp2_with fail
  refine (K2.out _ HB2.out).mono ?_
  rintro e w3 ⟨nb2, vs2, hl2, rfl, hn2, hb3⟩
  have hc : w3.cell? ⟨nb2, 4, none⟩ = some (.string ⟨#[102]⟩) := hn2.rest 0 _ (by rfl)
  have HB3 := Lib.hid (HB1.out.trans ((HB2.out.trans (hb3.mono HB2.out.size)).mono HB1.out.size))
  have h1 : ∀ (xT : TypeId) (w : World), (Instr.typeAssert (.iface 130 (.pointer (some ⟨nb1, 0, none⟩))) xT 61 true).run Tryz.prog w = .ok (.tuple #[.iface 130 (.pointer (some ⟨nb1, 0, none⟩)), .bool true]) w := fun xT w => run_typeAssert_hasB (want := Tryz.prog.methodsAt 61) (by kernel_rfl) (by kernel_rfl) _ xT w
  have h2 : ∀ (xT : TypeId) (w : World), (Instr.typeAssert (.iface 130 (.pointer (some ⟨nb1, 0, none⟩))) xT 64 true).run Tryz.prog w = .ok (.tuple #[.iface 130 (.pointer (some ⟨nb1, 0, none⟩)), .bool true]) w := fun xT w => run_typeAssert_hasB (want := Tryz.prog.methodsAt 64) (by kernel_rfl) (by kernel_rfl) _ xT w
  have h3 : ∀ (xT : TypeId) (w : World), (Instr.typeAssert (.iface 127 (.pointer (some ⟨nb2, 0, none⟩))) xT 61 true).run Tryz.prog w = .ok (.tuple #[.iface 127 (.pointer (some ⟨nb2, 0, none⟩)), .bool true]) w := fun xT w => run_typeAssert_hasB (want := Tryz.prog.methodsAt 61) (by kernel_rfl) (by kernel_rfl) _ xT w
  have h4 : ∀ (xT : TypeId) (w : World), (Instr.typeAssert (.iface 127 (.pointer (some ⟨nb2, 0, none⟩))) xT 64 true).run Tryz.prog w = .ok (.tuple #[.nilIface, .bool false]) w := fun xT w => run_typeAssert_lacksB (want := Tryz.prog.methodsAt 64) (by kernel_rfl) (by kernel_rfl) (by kernel_rfl) _ xT w
  have hm : ∀ w, (method 406 127 (.pointer (some ⟨nb2, 0, none⟩)) "Calls").run Tryz.prog w = .ok (179, .pointer (some ⟨nb2, 4, none⟩)) w := fun _ => by kernel_rfl
  have HC := Lib.hid hc
  clear hn2 hl2 hb3 K2 hc
  go_wp2_with fail
  refine (call_Work _ _ _).mono ?_
  rintro e w4 ⟨rfl, rfl⟩
  go_wp2_with fail
  refine (calling_Calls HC.out).mono ?_
  rintro e w4 ⟨rfl, rfl⟩
  go_wp2
  go_ret
  exact ⟨rfl, HB3.out⟩
end Go.Proofs.YtjdpnljaichdmaaGreatDoor

/-
  espalierlaw13.CallWork: a walk, for any operations. Printed by a program of mine (gen_oplaw.py). Conditions: they lie in memory.
-/
namespace Go.Proofs.YtjdpnljaichdmaaGreatDoor
open Go.RowKit
set_option linter.unusedVariables false

set_option maxRecDepth 100000 in
set_option maxHeartbeats 8000000 in
theorem law13_ops (hW : ∀ (op : ByteArray) (ps : List Pl) (A : Option Addr) (c : Nat) (w : World), ps.length * 56 ≤ 140737488351232 → Pls.lies w w.heap.size ps A → Calls Tryz.prog 9 #[.agg #[.string op, .slice A ps.length c]] w (Bel (.bool true) w))
    (n : Nat) (A : Option Addr) (c : Nat) (w : World) (hA : 0 < n → ∃ b o, A = some ⟨b, o, none⟩ ∧ ∀ k, k < n → ∃ op ps A c, CallAt w b (o + k * 2) op ps A c) :
    Calls Tryz.prog 3 #[.slice A n c] w (Bel (.bool true) w) := by
  have HA := Lib.hid hA
  have GW := Lib.hid hW
  clear hA hW
  go_enter Tryz.func3, Tryz.ntmps3
  go_wp2_with fail
  refine (law13_begun w).mono ?_
  rintro e w1 ⟨rfl, hb1⟩
  have HB1 := Lib.hid hb1
  clear hb1
  go_wp2
  go_loopw [3] (fun s3 wr => ∃ (k : Nat), k ≤ n ∧ s3 = .int .i64 (k : Int) ∧ Below w.heap.size w wr) (fun s3 _ => n - (intOf s3).toNat)
  case atStart => exact ⟨0, Nat.zero_le _, rfl, HB1.out⟩
  case round =>
    obtain ⟨k, hk, rfl, hbel⟩ := hrel
    have HB := Lib.hid hbel
    have hws := hbel.size
    clear hbel
    by_cases hlt : k < n
    · by_cases h2k : k < 400
      · obtain ⟨b, o, rfl, hcalls⟩ := HA.out (by omega)
        obtain ⟨op, ps, A', c', hcall⟩ := hcalls k hlt
        have hc := hcall.below HB.out
        have KW := Lib.hid (GW.out op ps A' c' wr hc.len hc.lies)
        have e0 := hc.op_
        have e1 := hc.args
        clear hcalls hcall hc
        go_wp2_with fail
        refine KW.out.mono ?_
        rintro e w2 ⟨rfl, hb2⟩
        have HB2 := Lib.hid (HB.out.trans (hb2.mono hws))
        clear hb2 KW e0 e1
        go_wp2
        go_roundw
        case rel => exact ⟨k + 1, by omega, by go_num, HB2.out⟩
        case measure => simp [intOf]; omega
      · have h2k' : decide ((k : Int) < 400) = false := by simp; omega
        go_wp2
        go_ret
        exact ⟨rfl, HB.out⟩
    · go_wp2
      go_ret
      exact ⟨rfl, HB.out⟩
end Go.Proofs.YtjdpnljaichdmaaGreatDoor

/-
  espalierlaw13.works at every operation: there is none. Conditions: the values lie in memory.
-/
namespace Go.Proofs.YtjdpnljaichdmaaGreatDoor
open Go.RowKit
set_option linter.unusedVariables false

theorem res13_cell {P : Program} {fn : Func} {p q r : Tmp} {ty : TypeId} (h : fn.results = #[.cell p ty, .tmp q, .tmp r]) {tmps : Array Value} {a : Addr} (ht : tmps.getD p undef = .pointer (some a)) {w : World} {v u x : Value} (hl : (loadVar ty a).run P w = .ok v w) (hu : tmps.getD q undef = u) (hx : tmps.getD r undef = x) :
    (results fn tmps).run P w = .ok (.tuple #[v, u, x]) w := by
  unfold results
  simp only [h]
  have ht' : tmps[p]?.getD undef = .pointer (some a) := by simpa using ht
  have hu' : tmps[q]?.getD undef = u := by simpa using hu
  have hx' : tmps[r]?.getD undef = x := by simpa using hx
  simp [ht', hu', hx', asAddr, hl]
theorem ref13_Work (op : ByteArray) (v : Value) (w : World) : Calls Tryz.prog 25 #[.string op, v] w (Bel (.tuple #[.agg #[.int .i64 0, .int .i64 0, .string ⟨#[]⟩, .slice none 0 0], .int .i64 1, .string ⟨#[]⟩]) w) := by
  have HB := Lib.hid ((Below.refl w.heap.size w).alloc (Nat.le_refl _) (.cells #[.int .i64 0, .int .i64 0, .string ⟨#[]⟩, .slice none 0 0] 34))
  have HX := Lib.hid (heap_alloc_new w (.cells #[.int .i64 0, .int .i64 0, .string ⟨#[]⟩, .slice none 0 0] 34))
  go_enter Tryz.func25, Tryz.ntmps25
  go_wp2
  exact bodyPost_ret (fn := Tryz.f25) (v := .tuple #[.agg #[.int .i64 0, .int .i64 0, .string ⟨#[]⟩, .slice none 0 0], .int .i64 1, .string ⟨#[]⟩]) (res13_cell (p := 4) (q := 5) (r := 6) (ty := 34) (a := ⟨w.heap.size, 0, none⟩) Tryz.results25 rfl (run_loadVar_row (P := Tryz.prog) _ _ _ 34 _ _ _ HX.out Tryz.underlying34 rfl (by kernel_rfl)) rfl rfl) rfl ⟨rfl, HB.out⟩
theorem call_works (op : ByteArray) (ps : List Pl) (A : Option Addr) (c : Nat) (w : World) (hlen : ps.length * 56 ≤ 140737488351232) (hl : Pls.lies w w.heap.size ps A) : Calls Tryz.prog 9 #[.agg #[.string op, .slice A ps.length c]] w (Bel (.bool true) w) := by
  refine law13_works op ps A c w hlen hl (R := fun v n s _ => v = .nilIface ∧ n = 1 ∧ s = ⟨#[]⟩) (R' := fun p A' c' n s _ => p = .mk 0 0 ⟨#[]⟩ [] ∧ A' = none ∧ c' = 0 ∧ n = 1 ∧ s = ⟨#[]⟩) ?_ ?_ ?_
  · intro _ A c w _
    refine (call_Work op _ w).mono ?_
    rintro e w' ⟨rfl, rfl⟩
    exact ⟨_, _, _, rfl, ⟨rfl, rfl, rfl⟩, Below.refl _ _⟩
  · intro _ A c w _
    refine (ref13_Work op _ w).mono ?_
    rintro e w' ⟨rfl, hb⟩
    exact ⟨.mk 0 0 ⟨#[]⟩ [], none, 0, _, _, rfl, ⟨rfl, rfl, rfl, rfl, rfl⟩, hb⟩
  · rintro v n s p A' c' n' s' w1 w2 w3 ⟨rfl, rfl, rfl⟩ _ ⟨rfl, rfl, rfl, rfl, rfl⟩ _
    exact ⟨rfl, law2_Fits_fault 1 (by decide) _ w3 none 0⟩
theorem law_CallWork (n : Nat) (A : Option Addr) (c : Nat) (w : World) (hA : 0 < n → ∃ b o, A = some ⟨b, o, none⟩ ∧ ∀ k, k < n → ∃ op ps A c, CallAt w b (o + k * 2) op ps A c) :
    Calls Tryz.prog 3 #[.slice A n c] w (Bel (.bool true) w) := law13_ops call_works n A c w hA
end Go.Proofs.YtjdpnljaichdmaaGreatDoor

/-
  What is proved: the card of 'espalierlaw13.CallWork' (Rows.CallWorkCardSaid): for every input it returns true and changes nothing that was there. Conditions: none beyond the row's own.
-/
namespace Go.Proofs.YtjdpnljaichdmaaGreatDoor.callWork
open Go.Proofs.YtjdpnljaichdmaaGreatDoor Go.ChangeShapes Go.WideShapes Go.ChangeAt Go.RowKit Go.Joins
set_option linter.unusedVariables false

set_option maxRecDepth 100000 in
theorem contract (H : Type) (enc : TypeId × Value → H) (W : World) (base : Nat) (args : Array Value) (ds gs : List (DataW H)) (before : List MemPlace)
    (hval0 : ∀ (j : Nat) t v, Tryz.f3.params[j]? = some t → args[j]? = some v → Value.okWide Tryz.prog W .any base t v)
    (hW : DataW.Whole enc Tryz.prog Tryz.f3.params.toList Rows.callWorkSpec.vars false W args.toList ds gs before)
    (hsz : (DataW.weightsEach Tryz.prog (Tryz.f3.params.toList ++ (OpenSpec.ofChange Rows.callWorkSpec).bare.plain.varTypes Tryz.prog) (ds ++ gs)).all (· ≤ reachBytes) = true) :
    Calls Tryz.prog 3 args W fun e W' => ∃ v, e = .returned v ∧ Rows.callWorkSpec.post enc Tryz.prog Tryz.f3 false true false false W args v W' := by
  have hW' := hW
  have hlt : ∀ p ∈ before, p.block < W.heap.size := fun p hp => hW.lt p hp
  obtain ⟨p, q, hA0, hV, rfl, hfz, hnd⟩ := hW
  have hA : DataW.TrodAll enc Tryz.prog W 0 (fun _ => true) true Tryz.f3.params.toList args.toList ds p := hA0
  have hAll := hA
  rw [Tryz.params3] at hA
  have hsz' := hsz
  rw [Tryz.params3] at hsz'
  obtain ⟨v0, vs0, d0, ds0, p0, q0, hargs, rfl, rfl, h0, r0⟩ := trodAll_cons hA
  obtain ⟨rfl, rfl, rfl⟩ := trodAll_nil r0
  obtain rfl : args = #[v0] := by cases args; simp_all
  obtain ⟨rfl, rfl⟩ := trodVars_none hV
  simp only [List.append_nil] at hlt hW' hsz'
  rw [List.append_nil] at hAll
  obtain ⟨fuel, h0⟩ := h0
  obtain ⟨a', l', k', rfl⟩ := okWide_slice Tryz.underlying22 (hval0 0 _ v0 (by rw [Tryz.params3]; rfl) rfl)
  obtain ⟨A, n, c, hv, hc⟩ := open_ops13 (x := (d0, p0)) (by simpa [Value.cells] using h0) (fun p hp => hlt p hp) (fun m hm => by
    have := List.all_eq_true.1 hsz' m (DataW.weights_mem_each (j := 0) rfl rfl m hm)
    exact of_decide_eq_true this)
  injection hv with e1 e2 e3
  subst e1 e2 e3
  refine (law_CallWork _ _ _ W hc).mono fun e W' ⟨he, hg⟩ => ?_
  subst he
  exact ⟨_, rfl, post_of_below (pa := p0) (pv := []) hW' (fun _ _ _ => (trodAll_cons_mk (shut_bool Tryz.underlying4 _) trodAll_mk0)) (fun sp hsp => trodAll_keeps plLaid hg (by kernel_rfl) hAll hlt hsp) (fun _ _ => rfl) (by simp)
    hg (ok_one (by kernel_rfl) rfl (okWide_bool_mk Tryz.underlying4 _))⟩

theorem laid_met (os : Os) : laidMet Tryz.prog Rows.callWorkRow.laid ((opWorld os).forCall (fun _ _ => 0) ⟨#[], opWit, []⟩).memory :=
  laidMet_of_run' 8 (by kernel_rfl) (by kernel_rfl)
theorem reads (os : Os) {H : Type} (enc : TypeId × Value → H) : ∃ places, DataW.whole enc Tryz.prog ((opWorld os).forCall (fun _ _ => 0) ⟨#[], opWit, []⟩).memory Tryz.f3.params.toList Rows.callWorkSpec.vars false opWit.toList 8 = some ([.nil], [], places) :=
  ⟨[], by kernel_rfl⟩
set_option maxRecDepth 100000 in
theorem lifted (os : Os) (started : os.Started) (H : Type) (enc : TypeId × Value → H) (F : Stop.Interp) :
    ReturnsInHanded {} Tryz.checked os 3 .any ((OpenSpec.ofChange Rows.callWorkSpec).preRow enc Tryz.prog Tryz.f3 Rows.callWorkRow.domain false Rows.callWorkRow.laid) (((OpenSpec.ofChange Rows.callWorkSpec).at F).post enc Tryz.prog Tryz.f3 false true false false) := by
  obtain ⟨places, hx⟩ := reads os enc
  refine returnsInHanded_of_row (C := Tryz.checked) (s := OpenSpec.ofChange Rows.callWorkSpec) opOwn started (by kernel_rfl) Tryz.func3
    (witness_row_at (enc := enc) (C := Tryz.checked) false (opWorld os) opWit rfl (by kernel_rfl) (by kernel_rfl) (by kernel_rfl)
      (OpenSpec.preRow_of_cond 8 hx (by kernel_rfl) (fun k hk => by cases hk) (by kernel_rfl) (laid_met os))) ?_
  intro W base args ds gs before hval hW _ _ hsz hL hsh _
  exact contract H enc W base args ds gs before hval hW hsz
theorem said : Rows.CallWorkSaid :=
  OpenClaim.holds_of_cond 3 Tryz.f3 rfl rfl rfl rfl rfl rfl rfl ⟨rfl, rfl, rfl, rfl, rfl⟩ rfl rfl rfl rfl rfl (by kernel_rfl) Tryz.func3 (by kernel_rfl)
    (of_decide_eq_true (by kernel_rfl)) (by unfold Func.isWrapper; first | (rw [if_pos (by decide +kernel)]; kernel_rfl) | (rw [if_neg (by decide +kernel)]; exact ⟨rfl, rfl⟩))
    (fun os started H enc _ F => by rw [OpenClaim.pre_eq_preRow]; exact lifted os started H enc F)
theorem plain (f : FuncId) (fn : Func) (hf : Tryz.pinned.checked.prog.funcNamed "espalier/espalierlaw13.CallWork" = some f) (hfn : Tryz.pinned.checked.prog.funcs[f]? = some fn) :
    true = Tryz.pinned.checked.prog.looks [] ∧ ∀ (j : Nat) t, fn.params[j]? = some t → Tryz.pinned.checked.prog.wantsStandIn t = false := by
  obtain rfl : f = 3 := Option.some.inj ((show Tryz.prog.funcNamed "espalier/espalierlaw13.CallWork" = some 3 by kernel_rfl).symm.trans hf) |>.symm
  obtain rfl : fn = Tryz.f3 := (Option.some.inj (Tryz.func3.symm.trans hfn)).symm
  refine ⟨by kernel_rfl, fun j t ht => ?_⟩
  rw [Tryz.params3] at ht
  have hm := Array.mem_of_getElem? ht
  simp at hm
  rcases hm with rfl
  exact (show Tryz.prog.wantsStandIn 22 = false by kernel_rfl)
/-- ████ THE CARD ████ -/
theorem proved : Rows.CallWorkCardSaid :=
  Claim7.holds_tied_plain_at .later [] _ _ _ _ said (fun _ h => by cases h) (by kernel_rfl) (fun _ h => by cases h) callWork_row_tie rfl ⟨rfl, rfl⟩ (by kernel_rfl) rfl plain (by kernel_rfl)
end Go.Proofs.YtjdpnljaichdmaaGreatDoor.callWork
