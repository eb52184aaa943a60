/-
  A region that draws its order, by an invariant over what has been carried out: one step an operation, whatever the order. Laws over any program. Conditions: none.
-/
import Derived.Test.YtcldbjgikkfnbaaGreatDoorCBase
import Derived.Laws.AppendOwn
import Derived.Laws.AppendOwnNone
import Derived.RegionTactic
namespace Go.Proofs.YtcldbjgikkfnbaaGreatDoor
open Go.RowKit

def missing (l : Array Bool) : Nat := l.toList.countP (fun b => !b)
theorem missing_set {l : Array Bool} {i : Nat} (h : l.getD i true = false) : missing (l.setIfInBounds i true) + 1 = missing l := by
  have hi : i < l.size := by
    rcases Nat.lt_or_ge i l.size with h1 | h1
    · exact h1
    · simp [Array.getElem?_eq_none h1] at h
  have hv : l[i] = false := by simpa [hi] using h
  unfold missing
  rw [Array.toList_setIfInBounds]
  have hl : i < l.toList.length := by simpa using hi
  have e : l.toList[i]'hl = false := by simpa using hv
  have h1 : l.toList.set i true = l.toList.take i ++ true :: l.toList.drop (i + 1) := by rw [List.set_eq_take_append_cons_drop, if_pos hl]
  have h2 : l.toList = l.toList.take i ++ false :: l.toList.drop (i + 1) := by
    conv => lhs; rw [← List.take_append_drop i l.toList]
    rw [List.drop_eq_getElem_cons hl, e]
  rw [h1]
  conv => rhs; rw [h2]
  simp [List.countP_append]
  omega
theorem ready_none {md : Region.Mode} {ops : Array Oper} {l : Array Bool} (hs : l.size = ops.size) (h : missing l = 0) : Region.ready md ops l = [] := by
  unfold Region.ready
  rw [List.filter_eq_nil_iff]
  intro i hi
  have hi : i < ops.size := by simpa using hi
  unfold missing at h
  rw [List.countP_eq_zero] at h
  have := h (l[i]'(by omega)) (by simp)
  simp only [Bool.not_eq_true', Bool.not_eq_false] at this
  have hg : l.getD i true = true := by simp [hs, hi, this]
  rw [hg]; simp
/-- THE LAW. -/
theorem wp_region_inv {P : Program} {id : Nat} {ops : Array Oper} {Q : Exit → Act → World → Prop} {a : Act} {w : World} (hm : P.follows .mixedOrders = true) (Inv : Array Bool → Act → World → Prop)
    (h0 : Inv (Array.replicate ops.size false) a w.drew)
    (step : ∀ (listed : Array Bool) (a : Act) (w : World) (i : Nat) (o : Oper), listed.size = ops.size → Inv listed a w → ops[i]? = some o → listed.getD i true = false → (∀ e ∈ o.after, Region.binds .any e = true → listed.getD e.on false = true) →
      o.guard = none ∧ o.wp P a w (fun a' w' => Inv (listed.setIfInBounds i true) a' w') Q)
    (fin : ∀ (listed : Array Bool) (a : Act) (w : World), listed.size = ops.size → Inv listed a w → Region.ready .any ops listed = [] → Q .normal a w) :
    (Code.region id ops true).wp P Q a w := by
  refine wp_region_any hm ?_
  have main : ∀ (fuel : Nat) (listed : Array Bool) (a : Act) (w : World), listed.size = ops.size → missing listed ≤ fuel → Inv listed a w → wpAny P .any ops Q fuel listed a w := by
    intro fuel
    induction fuel with
    | zero =>
      intro listed a w hs hf hi
      have hr := ready_none (md := .any) hs (by omega)
      exact ⟨hr, fin _ _ _ hs hi hr⟩
    | succ fuel ih =>
      intro listed a w hs hf hi
      refine ⟨fun hr => fin _ _ _ hs hi hr, fun i him => ?_⟩
      obtain ⟨hl, o, ho, hd⟩ := mem_ready.1 him
      obtain ⟨hg, hwp⟩ := step listed a w i o hs hi ho hl hd
      unfold wpOp
      simp only [ho]
      rw [if_pos (by simp [Region.wanted, hg])]
      refine .inl (Oper.wp_mono (fun a' w' h' => ih _ a' w' (by simp [hs]) ?_ h') hwp)
      have := missing_set hl
      omega
  refine main _ _ _ _ (by simp) ?_ h0
  unfold missing
  exact Nat.le_trans List.countP_le_length (by simp)

/-- The same, the act at the start named by itself. -/
theorem wp_region_inva {P : Program} {id : Nat} {ops : Array Oper} {Q : Exit → Act → World → Prop} {a : Act} {w : World} (Inv : Act → Array Bool → Act → World → Prop) (hm : P.follows .mixedOrders = true)
    (h0 : Inv a (Array.replicate ops.size false) a w.drew)
    (step : ∀ (listed : Array Bool) (b : Act) (w : World) (i : Nat) (o : Oper), listed.size = ops.size → Inv a listed b w → ops[i]? = some o → listed.getD i true = false → (∀ e ∈ o.after, Region.binds .any e = true → listed.getD e.on false = true) →
      o.guard = none ∧ o.wp P b w (fun a' w' => Inv a (listed.setIfInBounds i true) a' w') Q)
    (fin : ∀ (listed : Array Bool) (b : Act) (w : World), listed.size = ops.size → Inv a listed b w → Region.ready .any ops listed = [] → Q .normal b w) :
    (Code.region id ops true).wp P Q a w := wp_region_inv hm (Inv a) h0 step fin
theorem start_no {n i : Nat} (h : (Array.replicate n false).getD i false = true) : False := by
  simp only [Array.getD_eq_getD_getElem?, Array.getElem?_replicate] at h
  split at h <;> simp at h
def behind (ops : Array Oper) : Bool := (List.range ops.size).all fun i => match ops[i]? with
  | some o => o.after.all fun e => !Region.binds .any e || decide (e.on < i)
  | none => true
/-- Where nothing is ready all is carried out. -/
theorem ready_all {ops : Array Oper} {l : Array Bool} (hb : behind ops = true) (hs : l.size = ops.size) (hr : Region.ready .any ops l = []) : ∀ i, i < ops.size → l.getD i false = true := by
  intro i
  induction i using Nat.strongRecOn with
  | _ i ih =>
    intro hi
    cases hg : l.getD i false
    · exfalso
      have hb' := List.all_eq_true.1 hb i (by simpa using hi)
      rw [Array.getElem?_eq_getElem hi] at hb'
      simp only at hb'
      have hm : i ∈ Region.ready .any ops l := by
        refine mem_ready.2 ⟨by simp [hs, hi] at hg ⊢; exact hg, _, Array.getElem?_eq_getElem hi, fun e he hbd => ?_⟩
        have hlt : e.on < i := by
          have := Array.all_eq_true_iff_forall_mem.1 hb' e he
          simpa [hbd] using this
        exact ih e.on hlt (by omega)
      rw [hr] at hm
      cases hm
    · rfl
/-- Acts that are the same but for some slots. -/
structure Agree (D : List Nat) (a0 a : Act) : Prop where
  defers : a.defers = a0.defers
  size : a.tmps.size = a0.tmps.size
  same : ∀ k, k ∉ D → a.tmps.getD k undef = a0.tmps.getD k undef
theorem Agree.refl (D : List Nat) (a : Act) : Agree D a a := ⟨rfl, rfl, fun _ _ => rfl⟩
theorem getD_put_same {a : Act} {k : Nat} (h : k < a.tmps.size) (v : Value) : (a.put (some k) v).tmps.getD k undef = v := by
  simp [Act.put, h]
theorem getD_put_ne {a : Act} {k j : Nat} (h : k ≠ j) (v : Value) : (a.put (some k) v).tmps.getD j undef = a.tmps.getD j undef := by
  simp only [Act.put, Array.getD_eq_getD_getElem?]
  rw [Array.getElem?_setIfInBounds_ne h]
theorem Agree.put {D : List Nat} {a0 a : Act} (h : Agree D a0 a) {k : Nat} (hk : k ∈ D) (v : Value) : Agree D a0 (a.put (some k) v) :=
  ⟨h.defers, by simp [Act.put, h.size], fun j hj => by rw [getD_put_ne (by rintro rfl; exact hj hk), h.same j hj]⟩
theorem put_size (a : Act) (k : Nat) (v : Value) : (a.put (some k) v).tmps.size = a.tmps.size := by simp [Act.put]
theorem put_defers (a : Act) (k : Nat) (v : Value) : (a.put (some k) v).defers = a.defers := rfl
/-- Such an act is the first one with these slots put. -/
theorem Agree.eq {a0 a : Act} : ∀ {D : List Nat}, Agree D a0 a → a = D.foldr (fun k b => b.put (some k) (a.tmps.getD k undef)) a0 := by
  intro D h
  have key : ∀ (D' : List Nat) (j : Nat), ((D'.foldr (fun k b => b.put (some k) (a.tmps.getD k undef)) a0).tmps.getD j undef) = if j ∈ D' ∧ j < a0.tmps.size then a.tmps.getD j undef else a0.tmps.getD j undef := by
    intro D' j
    induction D' with
    | nil => simp
    | cons k D' ih =>
      have hsz : (D'.foldr (fun k b => b.put (some k) (a.tmps.getD k undef)) a0).tmps.size = a0.tmps.size := by
        clear ih
        induction D' with
        | nil => rfl
        | cons x r ih => rw [List.foldr_cons, put_size]; exact ih
      rw [List.foldr_cons]
      by_cases hkj : k = j
      · subst hkj
        by_cases hlt : k < a0.tmps.size
        · rw [getD_put_same (by rw [hsz]; exact hlt)]; simp [hlt]
        · have e1 : ∀ (b : Act) (v : Value), b.tmps.size = a0.tmps.size → (b.put (some k) v).tmps.getD k undef = undef := fun b v hb => by
            rw [Array.getD_eq_getD_getElem?, Array.getElem?_eq_none (by simp [Act.put, hb]; omega)]; rfl
          rw [e1 _ _ hsz]; simp [hlt]
      · rw [getD_put_ne hkj, ih]
        have : (j ∈ k :: D') ↔ j ∈ D' := by simp; intro e; exact absurd e.symm hkj
        simp only [this]
  have hsz : ∀ D' : List Nat, (D'.foldr (fun k b => b.put (some k) (a.tmps.getD k undef)) a0).tmps.size = a0.tmps.size := by
    intro D'
    induction D' with
    | nil => rfl
    | cons x r ih => rw [List.foldr_cons, put_size]; exact ih
  have hdf : ∀ D' : List Nat, (D'.foldr (fun k b => b.put (some k) (a.tmps.getD k undef)) a0).defers = a0.defers := by
    intro D'
    induction D' with
    | nil => rfl
    | cons x r ih => rw [List.foldr_cons, put_defers]; exact ih
  have ht : a.tmps = (D.foldr (fun k b => b.put (some k) (a.tmps.getD k undef)) a0).tmps := by
    apply Array.ext
    · rw [hsz, h.size]
    · intro i h1 h2
      have e := key D i
      have g1 : a.tmps.getD i undef = a.tmps[i] := by simp [h1]
      have g2 : (D.foldr (fun k b => b.put (some k) (a.tmps.getD k undef)) a0).tmps.getD i undef = (D.foldr (fun k b => b.put (some k) (a.tmps.getD k undef)) a0).tmps[i] := by
        rw [Array.getD_eq_getD_getElem?, Array.getElem?_eq_getElem h2]; rfl
      rw [← g1, ← g2, e]
      by_cases hD : i ∈ D
      · rw [if_pos ⟨hD, by rw [← h.size]; exact h1⟩]
      · rw [if_neg (fun hc => hD hc.1), h.same i hD]
  have hd := hdf D
  cases a with
  | mk t d =>
    cases hb : D.foldr (fun k b => b.put (some k) ((Act.mk t d).tmps.getD k undef)) a0 with
    | mk t' d' =>
      rw [hb] at ht hd
      simp only at ht hd
      have := h.defers
      simp only at this
      rw [ht, this, ← hd]
end Go.Proofs.YtcldbjgikkfnbaaGreatDoor
