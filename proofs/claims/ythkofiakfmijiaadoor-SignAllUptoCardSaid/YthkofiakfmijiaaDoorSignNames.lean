/-
  sign.Names: a walk, for every text below 2^32 bytes. Conditions: that; the library's variables are laid.
-/
import Derived.Test.YthkofiakfmijiaaDoorSignPlace
import Derived.Lib.SplitLaws
import Derived.Lib.IndexBytes
namespace Go.Proofs.YthkofiakfmijiaaDoor
open Go.RowKit
set_option linter.unusedVariables false

theorem splitB_pieces (c : UInt8) : ∀ (k : Nat) (s : ByteArray), Lib.countB s ⟨#[c]⟩ = k → (Lib.splitB ⟨#[c]⟩ 0 k s).map (·.data.toList) = pieces c s.data.toList := by
  intro k
  induction k with
  | zero =>
    intro s hk
    rcases Lib.indexB_cases s ⟨#[c]⟩ with hix | ⟨i, hix, hroom⟩
    · rw [Lib.splitB_zero]
      have h : Lib.indexByte s.data.toList c = -1 := by rw [← Lib.index_one]; exact hix
      have h1 := Lib.indexByte_none h
      rw [pieces_none]
      · rfl
      · intro hm
        obtain ⟨j, hj, hje⟩ := List.getElem_of_mem hm
        exact h1 j (by rw [List.getElem?_eq_getElem hj, hje])
    · rw [Lib.countB_hit s ⟨#[c]⟩ i (Nat.le_refl 1) hix] at hk
      omega
  | succ k ih =>
    intro s hk
    rcases Lib.indexB_cases s ⟨#[c]⟩ with hix | ⟨i, hix, hroom⟩
    · rw [Lib.countB_miss s ⟨#[c]⟩ hix] at hk; omega
    · rw [Lib.countB_hit s ⟨#[c]⟩ i (Nat.le_refl 1) hix] at hk
      have hk2 : Lib.countB (s.extract (i + (⟨#[c]⟩ : ByteArray).size) s.size) ⟨#[c]⟩ = k := by omega
      rw [Lib.splitB_hit _ _ _ _ i hix, List.map_cons, ih _ hk2]
      have hsz : (⟨#[c]⟩ : ByteArray).size = 1 := rfl
      rw [hsz] at hroom ⊢
      rw [Nat.add_zero, ext_from_zero, ext_to_end]
      have h : Lib.indexByte s.data.toList c = (i : Int) := by rw [← Lib.index_one]; exact hix
      obtain ⟨h1, h2⟩ := Lib.indexByte_some h
      have hlt : i < s.data.toList.length := by simp; omega
      have e : s.data.toList = s.data.toList.take i ++ c :: s.data.toList.drop (i + 1) := by
        conv => lhs; rw [← List.take_append_drop i s.data.toList]
        rw [List.drop_eq_getElem_cons hlt]
        rw [List.getElem?_eq_getElem hlt] at h1
        simp only [Option.some.injEq] at h1
        rw [h1]
      conv => rhs; rw [e]
      rw [pieces_cut]
      intro hm
      obtain ⟨j, hj, hje⟩ := List.getElem_of_mem hm
      have hji : j < i := by rw [List.length_take] at hj; omega
      refine h2 j hji ?_
      rw [List.getElem_take] at hje
      rw [List.getElem?_eq_getElem (by omega), hje]

/-- The pieces between blanks. -/
def blanksL (s : ByteArray) : List ByteArray := (pieces 32 s.data.toList).map bytesOf
def namesV (s : ByteArray) : Option (List ByteArray) := if s.data.toList = [] then some [] else if (blanksL s).all nameB then some (blanksL s) else none
theorem split_blanks (s : ByteArray) : Lib.splitB ⟨#[32]⟩ 0 (Lib.countB s ⟨#[32]⟩) s = blanksL s := by
  unfold blanksL
  rw [← splitB_pieces 32 _ s rfl, List.map_map]
  conv => lhs; rw [← List.map_id (Lib.splitB ⟨#[32]⟩ 0 (Lib.countB s ⟨#[32]⟩) s)]
  refine List.map_congr_left fun x _ => ?_
  exact (Lib.mk_data x).symm
/-- What Names answers. -/
def NP (l : Option (List ByteArray)) (w : World) (e : Ending) (w' : World) : Prop := Below w.heap.size w w' ∧ match l with
  | none => e = .returned (.tuple #[.slice none 0 0, .bool false])
  | some l => ∃ A c, e = .returned (.tuple #[.slice A l.length c, .bool true]) ∧ Rd w' w'.heap.size A (l.map vS)
theorem NP.bad {l : Option (List ByteArray)} {w w' : World} (h : l = none) (hb : Below w.heap.size w w') : NP l w (.returned (.tuple #[.slice none 0 0, .bool false])) w' := by
  subst h; exact ⟨hb, rfl⟩
theorem NP.good {l : Option (List ByteArray)} {p : List ByteArray} {A : Option Addr} {c n : Nat} {w w' : World} (h : l = some p) (hb : Below w.heap.size w w') (hn : n = p.length) (ho : Rd w' w'.heap.size A (p.map vS)) : NP l w (.returned (.tuple #[.slice A n c, .bool true])) w' := by
  subst h; subst hn; exact ⟨hb, A, c, rfl, ho⟩
theorem pieces_small {c : UInt8} : ∀ {l : List UInt8} {p : List UInt8}, p ∈ pieces c l → p.length ≤ l.length
  | [], p, h => by simp [pieces] at h; subst h; simp
  | b :: l, p, h => by
    unfold pieces at h
    split at h
    · rcases List.mem_cons.1 h with rfl | h
      · simp
      · have := pieces_small h; simp; omega
    · have hn := pieces_ne c l
      cases hp : pieces c l with
      | nil => exact absurd hp hn
      | cons q r =>
        have hq : q.length ≤ l.length := pieces_small (l := l) (by rw [hp]; simp)
        rw [hp] at h
        rcases List.mem_cons.1 h with rfl | h
        · simp; omega
        · have := pieces_small (l := l) (p := p) (by rw [hp]; simp [h])
          simp; omega
theorem blanks_small {s x : ByteArray} (h : x ∈ blanksL s) : x.size ≤ s.size := by
  unfold blanksL at h
  obtain ⟨p, hp, rfl⟩ := List.mem_map.1 h
  have := pieces_small hp
  rw [Lib.size_eq, Lib.size_eq]
  exact this
theorem take_nextB {l : List ByteArray} {k : Nat} (hk : k < l.length) (h : (l.take k).all nameB = true) (hp : nameB (l[k]'hk) = true) : (l.take (k + 1)).all nameB = true := by
  rw [List.take_succ_eq_append_getElem hk, List.all_append, h, List.all_cons, hp]; rfl
set_option maxHeartbeats 1000000 in
theorem sign_Names (s : ByteArray) (w : World) (hs : s.size < 4294967281) (hS : Sg w) : Calls Tryd.prog 18 #[.string s] w (NP (namesV s) w) := by
  by_cases h0 : s.toList = []
  · have hx := Lib.hid (show namesV s = some [] by unfold namesV; rw [← Lib.toList_data, if_pos h0])
    clear hs
    go_enter Tryd.func18, Tryd.ntmps18
    go_wp2
    go_ret2
    exact NP.good hx.out (Below.refl _ _) rfl Rd.nil
  have h0b : s.toList.isEmpty = false := by simpa using h0
  obtain ⟨m, hm⟩ := hS.mx
  have HS := Lib.hid (Tryd.strings_Split s ⟨#[32]⟩ m w hs hm (by decide))
  have hlen := Lib.splitB_all ⟨#[32]⟩ (by decide) 0 _ s rfl
  rw [split_blanks] at HS hlen
  rw [← hlen] at HS
  have hle := Lib.countB_le ⟨#[32]⟩ (by decide) s.size s (Nat.le_refl _)
  have hbnd : (blanksL s).length ≤ 140737488351232 := by omega
  have hnv : Hid (namesV s = if (blanksL s).all nameB then some (blanksL s) else none) := Lib.hid (by unfold namesV; rw [← Lib.toList_data, if_neg h0])
  have hsm : Hid (∀ x ∈ blanksL s, x.size ≤ 140737488351232) := Lib.hid fun x hx => by have := blanks_small hx; omega
  have hb0 : Hid (Below w.heap.size w (w.alloc (.cells ((blanksL s).map Value.string).toArray 9))) := Lib.hid ((Below.refl _ _).alloc (Nat.le_refl _) _)
  have hrd : Hid (Rd (w.alloc (.cells ((blanksL s).map Value.string).toArray 9)) (w.heap.size + 1) (some ⟨w.heap.size, 0, none⟩) ((blanksL s).map vS)) := Lib.hid (by
    have := Rd.lit (xs := (blanksL s).map vS) (heap_alloc_new w (.cells ((blanksL s).map Value.string).toArray 9)) (fun j u hj => by simpa [vS] using hj)
    simpa using this)
  clear hm hlen hle h0 hs
  generalize blanksL s = l at *
  generalize hw1 : w.alloc (.cells (l.map Value.string).toArray 9) = w1 at *
  have hz1 : w1.heap.size = w.heap.size + 1 := by rw [← hw1]; simp
  have HW1 := Lib.hid hw1
  have HZ1 := Lib.hid hz1
  clear hw1 hz1
  go_enter Tryd.func18, Tryd.ntmps18
  go_wp2_with fail
  refine HS.out.mono ?_
  rintro e w' ⟨rfl, hw'⟩
  have hw2 := hw'.symm
  subst hw2
  go_wp2
  go_loopw [13] (fun i wr => ∃ k : Nat, k ≤ l.length ∧ i = .int .i64 k ∧ (l.take k).all nameB = true ∧ Below w1.heap.size w1 wr) (fun i wr => l.length - (intOf i).toNat)
  case atStart => exact ⟨0, Nat.zero_le _, rfl, rfl, Below.refl _ _⟩
  case round =>
    obtain ⟨k, hk, rfl, hq, hbel⟩ := hrel
    have HQ := Lib.hid hq
    have HB := Lib.hid hbel
    clear hq hbel
    by_cases hlt : k < l.length
    · obtain ⟨ad, hae, _, hc⟩ := Rd.at_ (k := k) (Rd.below hrd.out (HB.out.mono (by rw [HZ1.out]; exact Nat.le_refl _))) (by simpa using hlt)
      have hc2 : wr.cell? ⟨w.heap.size, k, none⟩ = some (.string (l[k]'hlt)) := by
        simp only [Option.some.injEq] at hae
        have e : (⟨w.heap.size, k, none⟩ : Addr) = ad.add k := by rw [← hae]; unfold Addr.add; split <;> simp_all
        rw [e, hc]; simp [vS]
      have HN := Lib.hid (sign_Name (l[k]'hlt) wr (by have := hsm.out _ (List.getElem_mem hlt); omega))
      clear hc hae
      cases hn : nameB (l[k]'hlt)
      · have hx := Lib.hid (show namesV s = none by
          rw [hnv.out, if_neg]
          intro h
          rw [List.all_eq_true.1 h _ (List.getElem_mem hlt)] at hn; cases hn)
        go_wp2_with fail
        refine HN.out.mono ?_
        rintro e w2 ⟨rfl, hb2⟩
        rw [hn]
        have HB2 := Lib.hid (hb0.out.trans ((HB.out.trans (hb2.mono HB.out.size)).mono hb0.out.size))
        clear hb2 hn
        go_wp2
        go_ret2
        exact NP.bad hx.out HB2.out
      · have HQ1 := Lib.hid (take_nextB hlt HQ.out hn)
        go_wp2_with fail
        refine HN.out.mono ?_
        rintro e w2 ⟨rfl, hb2⟩
        rw [hn]
        have HB2 := Lib.hid (HB.out.trans (hb2.mono HB.out.size))
        clear hb2 hn
        go_wp2
        go_roundw
        case rel => exact ⟨k + 1, by omega, by go_num, HQ1.out, HB2.out⟩
        case measure => simp [intOf]; omega
    · obtain rfl : k = l.length := by omega
      have hx := Lib.hid (show namesV s = some l by rw [hnv.out, if_pos (by have := HQ.out; rwa [List.take_of_length_le (Nat.le_refl _)] at this)])
      have HR := Lib.hid ((Rd.below hrd.out (HB.out.mono (by rw [HZ1.out]; exact Nat.le_refl _))).more (B' := wr.heap.size) (by have := HB.out.size; rw [HZ1.out] at this; exact this))
      have HBB := Lib.hid (hb0.out.trans (HB.out.mono hb0.out.size))
      go_wp2
      go_ret2
      exact NP.good hx.out HBB.out rfl HR.out
end Go.Proofs.YthkofiakfmijiaaDoor
