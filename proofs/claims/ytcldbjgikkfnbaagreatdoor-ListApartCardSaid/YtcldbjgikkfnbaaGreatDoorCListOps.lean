/-
  Texts of a proof in one: ListOps, ListOps2. Conditions: each names its own.
-/
import Derived.Test.YtcldbjgikkfnbaaGreatDoorCPlSameL
import Derived.Test.YtcldbjgikkfnbaaGreatDoorCZvalMay
import Derived.Test.YtcldbjgikkfnbaaGreatDoorCZvalOf
/-
  The small operations of package list: walks. Conditions: the values lie in memory.
-/
namespace Go.Proofs.YtcldbjgikkfnbaaGreatDoor
open Go.RowKit
set_option linter.unusedVariables false

theorem list_list_hit (A : Option Addr) (n c : Nat) (w : World) : Calls Tryz.prog 46 #[.iface 47 (.slice A n c)] w fun e w' => e = .returned (.tuple #[.slice A n c, .int .i64 0]) ∧ w = w' := by
  have a1 := pf_as_List (.slice A n c)
  go_enter Tryz.func46, Tryz.ntmps46
  go_wp2
  go_ret2
  exact ⟨rfl, rfl⟩
theorem list_list_miss (T : TypeId) (y : Value) (h : T ≠ 47) (w : World) : Calls Tryz.prog 46 #[.iface T y] w fun e w' => e = .returned (.tuple #[.slice none 0 0, .int .i64 20]) ∧ w = w' := by
  have a1 := pf_no_List T y h
  go_enter Tryz.func46, Tryz.ntmps46
  go_wp2
  go_ret2
  exact ⟨rfl, rfl⟩
theorem int_run {y : Vl} {w0 : World} {S : Nat → Prop} {u : Value} (h : y.sep w0 S u) (w : World) : (Instr.typeAssert u 35 43 true).run Tryz.prog w = .ok (.tuple #[.int .i64 (y.asInt.getD 0), .bool y.asInt.isSome]) w := by
  cases hy : y.asInt with
  | some n =>
    rw [sep_asInt h hy]
    exact pf_as_Int _ w
  | none =>
    obtain ⟨T, z, rfl, hT⟩ := sep_noInt h hy
    exact pf_no_Int T z hT w
set_option maxRecDepth 100000 in
theorem list_made (l : List Vl) (A : Option Addr) (n c : Nat) (S : Nat → Prop) (w : World) (hn : n = l.length) (hf : (Vl.list l).fine) (h : (Vl.list l).sep w S (.iface 47 (.slice A n c))) :
    Calls Tryz.prog 44 #[.slice A n c] w (LOut (lMade l) S w) := by
  have KM := Lib.hid (zval_may (.list l) w S _ hf h.is)
  cases hm : (Vl.list l).mayV
  · have hd : decide (0 ≤ (Vl.list l).measure 65536 0) = false := hm
    have hr := Lib.hid (show lMade l = lBad 2 by unfold lMade; rw [hm]; rfl)
    rw [hd] at KM
    clear hd hm h hf hn
    go_enter Tryz.func44, Tryz.ntmps44
    go_wp2_with fail
    refine KM.out.mono ?_
    rintro e w' ⟨rfl, rfl⟩
    go_wp2
    go_ret2
    rw [hr.out]
    exact lout_bad (by decide) _ _ _ (Below.refl _ _)
  · have hd : decide (0 ≤ (Vl.list l).measure 65536 0) = true := hm
    have hr := Lib.hid (show lMade l = (0, .list l) by unfold lMade; rw [hm]; rfl)
    have H := Lib.hid h
    rw [hd] at KM
    clear hd hm h hf hn
    go_enter Tryz.func44, Tryz.ntmps44
    go_wp2_with fail
    refine KM.out.mono ?_
    rintro e w' ⟨rfl, rfl⟩
    go_wp2
    go_ret2
    rw [hr.out]
    exact ⟨_, rfl, fun _ => H.out.mono (fun b hb => .inl hb), fun h => absurd rfl h, Below.refl _ _⟩
theorem list_size (x : Vl) (u : Value) (b o c : Nat) (S : Nat → Prop) (w : World) (hx : x.sep w S u) (hc : w.cell? ⟨b, o, none⟩ = some u) : Calls Tryz.prog 45 #[.slice (some ⟨b, o, none⟩) 1 c] w (LOut (lSize x) S w) := by
  cases hl : x.asList with
  | some l =>
    rw [show lSize x = (0, .int l.length) by unfold lSize; rw [hl]]
    obtain ⟨A, c2, us, rfl, _, _, _⟩ := sep_asList hx hl
    clear hx hl
    go_enter Tryz.func45, Tryz.ntmps45
    go_wp2_with fail
    refine (list_list_hit _ _ _ _).mono ?_
    rintro e w' ⟨rfl, rfl⟩
    go_wp2
    go_ret2
    exact ⟨_, rfl, fun _ => by unfold Vl.sep; rfl, fun h => absurd rfl h, Below.refl _ _⟩
  | none =>
    rw [show lSize x = lBad 20 by unfold lSize; rw [hl]]
    obtain ⟨T, y, rfl, hT⟩ := sep_noList hx hl
    clear hx hl
    go_enter Tryz.func45, Tryz.ntmps45
    go_wp2_with fail
    refine (list_list_miss _ _ hT _).mono ?_
    rintro e w' ⟨rfl, rfl⟩
    go_wp2
    go_ret2
    exact lout_bad (by decide) _ _ _ (Below.refl _ _)
set_option maxRecDepth 100000 in
theorem list_at (x y : Vl) (u v : Value) (b o c : Nat) (S S' : Nat → Prop) (w : World) (hx : x.sep w S u) (hy : y.sep w S' v) (hc : w.cell? ⟨b, o, none⟩ = some u) (hd : w.cell? ⟨b, o + 1, none⟩ = some v) (hlen : ∀ l, x.asList = some l → l.length ≤ 140737488351232) :
    Calls Tryz.prog 47 #[.slice (some ⟨b, o, none⟩) 2 c] w (LOut (lAt x y) S w) := by
  have KI := int_run hy
  obtain ⟨tv, zv, rfl⟩ := hy.iface
  cases hl : x.asList with
  | none =>
    rw [show lAt x y = lBad 20 by unfold lAt; rw [hl]]
    obtain ⟨T, z, rfl, hT⟩ := sep_noList hx hl
    clear hx hl hlen hy
    generalize y.asInt.getD 0 = n at KI
    generalize y.asInt.isSome = q at KI
    go_enter Tryz.func47, Tryz.ntmps47
    go_wp2_with fail
    refine (list_list_miss _ _ hT _).mono ?_
    rintro e w' ⟨rfl, rfl⟩
    go_wp2
    go_ret2
    exact lout_bad (by decide) _ _ _ (Below.refl _ _)
  | some l =>
    have hlen2 := hlen l hl
    obtain ⟨A, c2, us, rfl, hown, _, hsep⟩ := sep_asList hx hl
    cases hi : y.asInt with
    | none =>
      rw [show lAt x y = lBad 20 by unfold lAt; rw [hl, hi]]
      rw [hi] at KI
      simp only [Option.getD_none, Option.isSome_none] at KI
      clear hx hl hlen hy hown hsep hi
      go_enter Tryz.func47, Tryz.ntmps47
      go_wp2_with fail
      refine (list_list_hit _ _ _ _).mono ?_
      rintro e w' ⟨rfl, rfl⟩
      go_wp2
      go_ret2
      exact lout_bad (by decide) _ _ _ (Below.refl _ _)
    | some n =>
      rw [show lAt x y = lAtN l n by unfold lAt; rw [hl, hi]]
      rw [hi] at KI
      simp only [Option.getD_some, Option.isSome_some] at KI
      by_cases hn : n < 0
      · rw [show lAtN l n = lBad 23 by unfold lAtN; rw [if_neg (by omega)]]
        have d1 : decide (n < 0) = true := by simpa using hn
        clear hx hl hlen hy hown hsep hi hn
        go_enter Tryz.func47, Tryz.ntmps47
        go_wp2_with fail
        refine (list_list_hit _ _ _ _).mono ?_
        rintro e w' ⟨rfl, rfl⟩
        go_wp2
        go_ret2
        exact lout_bad (by decide) _ _ _ (Below.refl _ _)
      · obtain ⟨k, rfl⟩ := Int.eq_ofNat_of_zero_le (show 0 ≤ n by omega)
        by_cases hk : l.length ≤ k
        · rw [show lAtN l (k : Int) = lBad 23 by unfold lAtN; rw [if_pos (by omega), Int.toNat_natCast, List.getElem?_eq_none hk]]
          have d2 : decide (l.length ≤ k) = true := by simpa using hk
          clear hx hl hlen hy hown hsep hi hn hk
          go_enter Tryz.func47, Tryz.ntmps47
          go_wp2_with fail
          refine (list_list_hit _ _ _ _).mono ?_
          rintro e w' ⟨rfl, rfl⟩
          go_wp2
          go_ret2
          exact lout_bad (by decide) _ _ _ (Below.refl _ _)
        · have hk2 : k < l.length := by omega
          have hul := hsep.length
          rw [show lAtN l (k : Int) = (0, l[k]) by unfold lAtN; rw [if_pos (by omega), Int.toNat_natCast, List.getElem?_eq_getElem hk2]]
          have d2 : decide (l.length ≤ k) = false := by simpa using hk
          obtain ⟨g, cap, e1⟩ : ∃ g cap, Value.slice A l.length c2 = .slice (some ⟨g, 0, none⟩) l.length cap := by
            rcases hown.2 with ⟨_, h0⟩ | ⟨g, cap, cur, e1, _⟩
            · omega
            · exact ⟨g, cap, e1⟩
          injection e1 with e2 e3 e4
          subst e2 e4
          have hcl : w.cell? ⟨g, k, none⟩ = some (us[k]'(by omega)) := by
            have := hown.cellAt k (by omega)
            rw [this, List.getElem?_eq_getElem]
          have HEL := Lib.hid ((hsep.at_ k hk2 (by omega)).mono (S' := S) (fun b hb => hb.1))
          obtain ⟨tu, zu, hu⟩ := HEL.out.iface
          rw [hu] at hcl
          have HU := Lib.hid hu
          clear hx hl hlen hy hown hsep hi hn hu
          go_enter Tryz.func47, Tryz.ntmps47
          go_wp2_with fail
          refine (list_list_hit _ _ _ _).mono ?_
          rintro e w' ⟨rfl, rfl⟩
          go_wp2
          go_ret2
          exact ⟨_, rfl, fun _ => by rw [← HU.out]; exact HEL.out.mono (fun b hb => .inl hb), fun h => absurd rfl h, Below.refl _ _⟩
end Go.Proofs.YtcldbjgikkfnbaaGreatDoor

/-
  slices.Clone, Reverse of a list; list.cut, list.turn: walks. Conditions: the values lie in memory.
-/
namespace Go.Proofs.YtcldbjgikkfnbaaGreatDoor
open Go.RowKit
set_option linter.unusedVariables false

def RowNew (n : Nat) (us : List Value) (w : World) (e : Ending) (w' : World) : Prop := ∃ A c, e = .returned (.slice A n c) ∧ w'.ownsRow w.heap.size 35 1 (.slice A n c) n us ∧ Below w.heap.size w w'
theorem own_form {w : World} {base size n : Nat} {e : TypeId} {v : Value} {us : List Value} (h : w.ownsRow base e size v n us) : ∃ A c, v = .slice A n c := by
  rcases h.2 with ⟨e1, h0⟩ | ⟨g, cap, cur, e1, _⟩
  · exact ⟨none, 0, by rw [e1, h0]⟩
  · exact ⟨_, _, e1⟩
theorem own_lit (w : World) (e : TypeId) : (w.alloc (.cells #[] e)).ownsRow w.heap.size e 1 (.slice (some ⟨w.heap.size, 0, none⟩) 0 0) 0 [] := by
  exact ⟨rfl, .inr ⟨w.heap.size, 0, #[], rfl, Nat.le_refl _, heap_alloc_new w _, Nat.le_refl _, Nat.zero_le _, rfl, rfl⟩⟩
set_option maxRecDepth 100000 in
theorem list_Clone (A : Option Addr) (n c : Nat) (us : List Value) (w : World) (hl : us.length = n) (hA : A = none → n = 0) (hc : ∀ ad, A = some ad → ∀ j u, us[j]? = some u → w.cell? (ad.add j) = some u) (h1 : ∀ u ∈ us, u.oneCell' = true) (hsz : n * 16 ≤ 140737488355328) :
    Calls Tryz.prog 50 #[.slice A n c] w (RowNew n us w) := by
  obtain ⟨i0, hi, hz0, hz1, hz2⟩ := info_parts info_value
  cases A with
  | none =>
    obtain rfl := hA rfl
    obtain rfl := List.eq_nil_of_length_eq_zero hl
    have he : ∀ w : World, (binOp .eql 47 (.slice none 0 c) (.slice none 0 0)).run Tryz.prog w = .ok (.bool true) w := fun _ => rfl
    go_enter Tryz.func50, Tryz.ntmps50
    go_wp2
    go_ret
    exact ⟨none, 0, rfl, World.ownsRow_nil _ _ _ _, Below.refl _ _⟩
  | some ad =>
    have he : ∀ w : World, (binOp .eql 47 (.slice (some ad) n c) (.slice none 0 0)).run Tryz.prog w = .ok (.bool false) w := fun _ => rfl
    have HC := Lib.hid (hc ad rfl)
    clear hc hA
    go_enter Tryz.func50, Tryz.ntmps50
    go_wp2_with (at_builtin; refine wpList_append_own_at _ rfl _ _ 47 rfl w.heap.size 35 i0 .nilIface 1 16 Tryz.underlying47 hi hz0 hz1 hz2 rfl (by decide) _ _ _ rfl (own_lit w _) ad n c us rfl (by omega) (fun j u hj => alloc_cell _ (HC.out j u hj)) h1 (by unfold maxLen; omega) (by omega) (by simp) ?_)
    intro v' w1 hown hgr _ hblk
    replace hown : w1.ownsRow w.heap.size 35 1 v' n us := by simpa using hown
    obtain ⟨A', c', rfl⟩ := own_form hown
    have HO := Lib.hid hown
    have HB := Lib.hid (((Below.refl w.heap.size w).alloc (Nat.le_refl _) (.cells #[] 35)).grown hgr (by simp) (fun g hg => by injection hg with hg; have h2 : w.heap.size = g := hg; omega))
    clear hown hgr hblk
    go_wp2
    go_ret
    exact ⟨A', c', rfl, HO.out, HB.out⟩
/-- A list's elements, from some place on. -/
theorem cut_news {w : World} {A : Option Addr} {n c a b : Nat} {base : Nat} {e : TypeId} {us : List Value} (h : w.ownsRow base e 1 (.slice A n c) n us) (hab : a ≤ b) (hb : b ≤ n) : ∀ g, A = some ⟨g, 0, none⟩ → ∀ j u, ((us.take b).drop a)[j]? = some u → w.cell? ((⟨g, a, none⟩ : Addr).add j) = some u := by
  intro g hA j u hj
  have hl := h.1
  subst hA
  have hj2 : (us.take b)[a + j]? = some u := by rw [← hj, List.getElem?_drop]
  have hjb : a + j < b := by
    rcases Nat.lt_or_ge (a + j) b with h1 | h1
    · exact h1
    · rw [List.getElem?_eq_none (by rw [List.length_take]; omega)] at hj2; cases hj2
  rw [List.getElem?_take_of_lt hjb] at hj2
  have := h.cellAt (a + j) (by omega)
  rw [hj2] at this
  rw [Addr.add_lit]
  exact this
theorem fine_at {x : Vl} {l : List Vl} (h : x.fine) (hx : x.asList = some l) : l.length ≤ 140737488351232 ∧ Vls.fine l := by
  cases x <;> simp [Vl.asList] at hx
  subst hx
  unfold Vl.fine at h
  exact h
set_option maxRecDepth 100000 in
set_option maxHeartbeats 4000000 in
theorem list_cut (x y z : Vl) (u v t : Value) (b o c : Nat) (S S1 S2 : Nat → Prop) (w : World) (hx : x.sep w S u) (hy : y.sep w S1 v) (hz : z.sep w S2 t) (hS : ∀ b, S b → b < w.heap.size) (hc : w.cell? ⟨b, o, none⟩ = some u) (hd : w.cell? ⟨b, o + 1, none⟩ = some v) (he : w.cell? ⟨b, o + 2, none⟩ = some t) (hlen : ∀ l, x.asList = some l → l.length ≤ 65536) (hry : ∀ n, y.asInt = some n → rng n = true) (hrz : ∀ n, z.asInt = some n → rng n = true) :
    Calls Tryz.prog 51 #[.slice (some ⟨b, o, none⟩) 3 c] w (LOut (lCut x y z) S w) := by
  have KI := int_run hy
  have KJ := int_run hz
  obtain ⟨tv, zv, rfl⟩ := hy.iface
  obtain ⟨tt, zt, rfl⟩ := hz.iface
  cases hl : x.asList with
  | none =>
    rw [show lCut x y z = lBad 20 by unfold lCut; rw [hl]]
    obtain ⟨T, z, rfl, hT⟩ := sep_noList hx hl
    clear hx hl hlen hy hz hry hrz
    generalize y.asInt.getD 0 = n at KI
    generalize y.asInt.isSome = q at KI
    generalize Option.getD _ 0 = n2 at KJ
    generalize Option.isSome _ = q2 at KJ
    go_enter Tryz.func51, Tryz.ntmps51
    go_wp2_with fail
    refine (list_list_miss _ _ hT _).mono ?_
    rintro e w' ⟨rfl, rfl⟩
    go_wp2
    go_ret2
    exact lout_bad (by decide) _ _ _ (Below.refl _ _)
  | some l =>
    have hlen2 := hlen l hl
    obtain ⟨A, c2, us, rfl, hown, hgS, hsep⟩ := sep_asList hx hl
    cases hi : y.asInt with
    | none =>
      rw [show lCut x y z = lBad 20 by unfold lCut; rw [hl, hi]]
      rw [hi] at KI
      simp only [Option.getD_none, Option.isSome_none] at KI
      clear hx hl hlen hy hown hsep hi hz hry hrz
      generalize z.asInt.getD 0 = n2 at KJ
      generalize z.asInt.isSome = q2 at KJ
      go_enter Tryz.func51, Tryz.ntmps51
      go_wp2_with fail
      refine (list_list_hit _ _ _ _).mono ?_
      rintro e w' ⟨rfl, rfl⟩
      go_wp2
      go_ret2
      exact lout_bad (by decide) _ _ _ (Below.refl _ _)
    | some n =>
      cases hj : z.asInt with
      | none =>
        rw [show lCut x y z = lBad 20 by unfold lCut; rw [hl, hi, hj]]
        rw [hi] at KI
        rw [hj] at KJ
        simp only [Option.getD_none, Option.isSome_none, Option.getD_some, Option.isSome_some] at KI KJ
        clear hx hl hlen hy hown hsep hi hz hj hry hrz
        go_enter Tryz.func51, Tryz.ntmps51
        go_wp2_with fail
        refine (list_list_hit _ _ _ _).mono ?_
        rintro e w' ⟨rfl, rfl⟩
        go_wp2
        go_ret2
        exact lout_bad (by decide) _ _ _ (Below.refl _ _)
      | some m =>
        rw [show lCut x y z = lCutN l n m by unfold lCut; rw [hl, hi, hj]]
        have hrn := hry n hi
        have hrm := hrz m hj
        rw [hi] at KI
        rw [hj] at KJ
        simp only [Option.getD_some, Option.isSome_some] at KI KJ
        clear hx hl hlen hy hi hz hj hry hrz
        by_cases hok : 0 ≤ n ∧ n ≤ m ∧ m ≤ l.length
        · obtain ⟨h1, h2, h3⟩ := hok
          obtain ⟨a, rfl⟩ := Int.eq_ofNat_of_zero_le h1
          obtain ⟨m, rfl⟩ := Int.eq_ofNat_of_zero_le (show 0 ≤ m by omega)
          have ham : a ≤ m := by omega
          have hml : m ≤ l.length := by omega
          have hul := hsep.length
          have hr := Lib.hid (show lCutN l (a : Int) (m : Int) = (0, .list ((l.take m).drop a)) by unfold lCutN; rw [if_pos ⟨h1, h2, h3⟩, Int.toNat_natCast, Int.toNat_natCast])
          have HS := Lib.hid ((hsep.take m).drop a)
          have HN := Lib.hid (cut_news hown ham hml)
          have HF := Lib.hid (show ∀ u ∈ (us.take m).drop a, u.oneCell' = true from fun u hu => ifaces hsep u (List.mem_of_mem_take (List.mem_of_mem_drop hu)))
          have hll : Hid (((us.take m).drop a).length = m - a) := Lib.hid (by simp; omega)
          have hll2 : Hid (((l.take m).drop a).length = m - a) := Lib.hid (by simp; omega)
          have hSS := Lib.hid hS
          rcases hown.2 with ⟨e1, h0⟩ | ⟨g, cap, cur, e1, _, _, hcap, _⟩
          · injection e1 with e2 e3 e4
            subst e2 e4
            have hm0 : m = 0 := by omega
            subst hm0
            have ha0 : a = 0 := by omega
            subst ha0
            clear hsep hown h1 h2 h3
            go_enter Tryz.func51, Tryz.ntmps51
            go_wp2_with fail
            refine (list_list_hit _ _ _ _).mono ?_
            rintro e w' ⟨rfl, rfl⟩
            go_wp2_with fail
            refine (list_Clone none 0 0 [] _ rfl (fun _ => rfl) (fun _ h => by cases h) (by simp) (by omega)).mono ?_
            rintro e w1 ⟨A', c', rfl, hown', hb'⟩
            have HO := Lib.hid hown'
            have HB := Lib.hid hb'
            clear hown' hb'
            go_wp2
            go_ret2
            rw [hr.out]
            exact ⟨_, rfl, fun _ => sep_list (by simp) HO.out (fun g hg => .inr (HO.out.lt g hg)) (by simpa using Vls.sep.nil _ _), fun h => absurd rfl h, HB.out⟩
          · injection e1 with e2 e3 e4
            subst e2 e4
            have hglt := hown.lt g rfl
            by_cases hac : a = c2
            · have hma : m = a := by omega
              have hnil := Lib.hid (show (l.take m).drop a = [] from List.eq_nil_of_length_eq_zero (by have := hll2.out; omega))
              clear hsep hown h1 h2 h3
              go_enter Tryz.func51, Tryz.ntmps51
              go_wp2_with fail
              refine (list_list_hit _ _ _ _).mono ?_
              rintro e w' ⟨rfl, rfl⟩
              go_wp2_with fail
              refine (list_Clone (some ⟨g, 0, none⟩) 0 0 [] _ rfl (fun _ => rfl) (fun _ _ j u hj => by simp at hj) (by simp) (by omega)).mono ?_
              rintro e w1 ⟨A', c', rfl, hown', hb'⟩
              have HO := Lib.hid hown'
              have HB := Lib.hid hb'
              clear hown' hb'
              go_wp2
              go_ret2
              rw [hr.out, hnil.out]
              exact ⟨_, rfl, fun _ => sep_list rfl HO.out (fun g hg => .inr (HO.out.lt g hg)) (Vls.sep.nil _ _), fun h => absurd rfl h, HB.out⟩
            · have hcc : c2 ≠ a := fun e => hac e.symm
              clear hsep hown h1 h2 h3
              go_enter Tryz.func51, Tryz.ntmps51
              go_wp2_with fail
              refine (list_list_hit _ _ _ _).mono ?_
              rintro e w' ⟨rfl, rfl⟩
              go_wp2_with fail
              refine (list_Clone (some ⟨g, a, none⟩) (m - a) (c2 - a) _ _ hll.out (fun h => by cases h) (fun ad h => by injection h with h; subst h; exact HN.out g rfl) HF.out (by omega)).mono ?_
              rintro e w1 ⟨A', c', rfl, hown', hb'⟩
              have HO := Lib.hid hown'
              have HB := Lib.hid hb'
              clear hown' hb'
              go_wp2
              go_ret2
              rw [hr.out]
              refine ⟨_, rfl, fun _ => sep_list hll2.out.symm HO.out (fun g hg => .inr (HO.out.lt g hg)) ?_, fun h => absurd rfl h, HB.out⟩
              refine Vls.sep.keep _ _ _ _ (fun b hb => HB.out.block b (hSS.out b hb.1)) (fun b hb => ⟨.inl hb.1, fun e => ?_⟩) HS.out
              have := (HO.out.lt b e).1
              have := hSS.out b hb.1
              omega
        · rw [show lCutN l n m = lBad 23 by unfold lCutN; rw [if_neg hok]]
          by_cases h1 : n < 0
          · have t1 : decide (n < 0) = true := by simpa using h1
            clear hok hown hsep
            go_enter Tryz.func51, Tryz.ntmps51
            go_wp2_with fail
            refine (list_list_hit _ _ _ _).mono ?_
            rintro e w' ⟨rfl, rfl⟩
            go_wp2
            go_ret2
            exact lout_bad (by decide) _ _ _ (Below.refl _ _)
          · have t1 : decide (n < 0) = false := by simpa using h1
            by_cases h2 : m < n
            · have t2 : decide (m < n) = true := by simpa using h2
              clear hok hown hsep
              go_enter Tryz.func51, Tryz.ntmps51
              go_wp2_with fail
              refine (list_list_hit _ _ _ _).mono ?_
              rintro e w' ⟨rfl, rfl⟩
              go_wp2
              go_ret2
              exact lout_bad (by decide) _ _ _ (Below.refl _ _)
            · have t2 : decide (m < n) = false := by simpa using h2
              have t3 : decide ((l.length : Int) < m) = true := by simp; omega
              clear hok hown hsep h1 h2
              go_enter Tryz.func51, Tryz.ntmps51
              go_wp2_with fail
              refine (list_list_hit _ _ _ _).mono ?_
              rintro e w' ⟨rfl, rfl⟩
              go_wp2
              go_ret2
              exact lout_bad (by decide) _ _ _ (Below.refl _ _)
end Go.Proofs.YtcldbjgikkfnbaaGreatDoor
