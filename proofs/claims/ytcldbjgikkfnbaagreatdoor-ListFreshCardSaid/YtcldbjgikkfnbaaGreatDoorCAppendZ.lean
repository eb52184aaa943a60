/-
  append to a row whose spare cells are noughts. Plain laws over any program. Conditions: none.
-/
import Derived.Test.YtcldbjgikkfnbaaGreatDoorCPlSameL
namespace Go.Proofs.YtcldbjgikkfnbaaGreatDoor
open Go.RowKit
set_option linter.unusedVariables false

/-- A piece, so often. -/
def repL (zs : List Value) : Nat → List Value
  | 0 => []
  | n + 1 => zs ++ repL zs n
theorem repL_length (zs : List Value) : ∀ n, (repL zs n).length = n * zs.length
  | 0 => by simp [repL]
  | n + 1 => by unfold repL; rw [List.length_append, repL_length zs n, Nat.succ_mul]; omega
theorem repL_get (zs : List Value) : ∀ n i, i < n * zs.length → (repL zs n)[i]? = zs[i % zs.length]?
  | 0, i, h => by omega
  | n + 1, i, h => by
    unfold repL
    by_cases hi : i < zs.length
    · rw [List.getElem?_append_left hi, Nat.mod_eq_of_lt hi]
    · have hi' : zs.length ≤ i := by omega
      rw [List.getElem?_append_right hi', repL_get zs n (i - zs.length) (by rw [Nat.succ_mul] at h; omega), Nat.mod_eq_sub_mod hi']
theorem zeroCells_repL (zs : List Value) (n : Nat) : (Builtin.zeroCells zs.toArray n).toList = repL zs n := by
  apply List.ext_getElem?
  intro i
  unfold Builtin.zeroCells
  by_cases h : i < n * zs.length
  · rw [repL_get zs n i h]
    have hz : 0 < zs.length := by rcases Nat.eq_zero_or_pos zs.length with h0 | h0; · rw [h0] at h; omega
                                  · exact h0
    have hm := Nat.mod_lt i hz
    rw [List.getElem?_eq_getElem hm]
    simp [h, hm]
  · have hn : (repL zs n)[i]? = none := List.getElem?_eq_none (by rw [repL_length]; omega)
    rw [hn]
    simp
    omega
theorem repL_drop (zs : List Value) : ∀ n m, m ≤ n → (repL zs n).drop (m * zs.length) = repL zs (n - m)
  | n, 0, _ => by simp
  | 0, m + 1, h => by omega
  | n + 1, m + 1, h => by
    rw [show repL zs (n + 1) = zs ++ repL zs n from rfl, Nat.succ_mul, Nat.add_comm, ← List.drop_drop, List.drop_left, repL_drop zs n m (by omega)]
    congr 1; omega
/-- A row of one's own, noughts behind what is in use. -/
def OwnZ (w : World) (base : Nat) (e : TypeId) (zs : List Value) (v : Value) (n : Nat) (xs : List Value) : Prop :=
  xs.length = n * zs.length ∧ ((v = .slice none 0 0 ∧ n = 0) ∨ ∃ g cap, v = .slice (some ⟨g, 0, none⟩) n cap ∧ base ≤ g ∧ w.heap[g]? = some (.cells (xs ++ repL zs (cap - n)).toArray e (0, 0)) ∧ n ≤ cap ∧ cap ≤ maxLen)
theorem OwnZ.own {w : World} {base n : Nat} {e : TypeId} {zs xs : List Value} {v : Value} (h : OwnZ w base e zs v n xs) : w.ownsRow base e zs.length v n xs := by
  refine ⟨h.1, ?_⟩
  rcases h.2 with h2 | ⟨g, cap, e1, h3, h4, h5, h6⟩
  · exact .inl h2
  · refine .inr ⟨g, cap, _, e1, h3, h4, h5, h6, ?_, ?_⟩
    · simp only [List.size_toArray, List.length_append, h.1, repL_length, ← Nat.add_mul]; congr 1; omega
    · simp only [← h.1]; exact List.take_left
theorem OwnZ.nil (w : World) (base : Nat) (e : TypeId) (zs : List Value) : OwnZ w base e zs (.slice none 0 0) 0 [] := ⟨by simp, .inl ⟨rfl, rfl⟩⟩
theorem OwnZ.keep {w w' : World} {base n : Nat} {e : TypeId} {zs xs : List Value} {v : Value} (h : OwnZ w base e zs v n xs) (hb : ∀ g, v.ownBlock = some g → w'.heap[g]? = w.heap[g]?) : OwnZ w' base e zs v n xs := by
  refine ⟨h.1, ?_⟩
  rcases h.2 with h2 | ⟨g, cap, e1, h3, h4, h5⟩
  · exact .inl h2
  · exact .inr ⟨g, cap, e1, h3, (hb g (by rw [e1]; rfl)).trans h4, h5⟩
theorem OwnZ.lt {w : World} {base n : Nat} {e : TypeId} {zs xs : List Value} {v : Value} (h : OwnZ w base e zs v n xs) : ∀ k, v.ownBlock = some k → base ≤ k ∧ k < w.heap.size := h.own.lt
section
variable {P : Program} (w : World)
theorem run_append_Z (base : Nat) (t ty e : TypeId) (i : TypeInfo) (z : Value) (zs : List Value) (bytes : Nat) (ht : P.underlying t = some (.slice e)) (hi : P.info? e = some i) (hz : i.zero = some z)
    (hsize : i.size = zs.length) (hby : i.bytes = bytes) (hzs : z.cells = zs.toArray) (hsz : 0 < zs.length)
    (v : Value) (n : Nat) (xs : List Value) (hown : OwnZ w base e zs v n xs)
    (a : Addr) (m c : Nat) (news : List Value) (hm : 0 < m) (hl : news.length = m * zs.length) (hnews : ∀ j u, news[j]? = some u → w.cell? (a.add j) = some u) (h1 : ∀ u ∈ news, u.oneCell' = true)
    (h63 : n + m ≤ maxLen) (hbytes : (n + m) * bytes ≤ 140737488355328) (hbase : base ≤ w.heap.size) :
    ∃ v' w', (Builtin.append_ #[t, t] ty #[v, .slice (some a) m c]).run P w = .ok v' w' ∧ OwnZ w' base e zs v' (n + m) (xs ++ news) ∧ w.grownBy w' v.ownBlock ∧ (v'.ownBlock = v.ownBlock ∨ (v'.ownBlock = some w.heap.size ∧ w.grownBy w' none)) := by
  subst hby
  have hsmall : n + m ≤ 9223372036854775807 := by simp only [maxLen] at h63; omega
  have hlen : (xs ++ news).length = (n + m) * zs.length := by rw [List.length_append, hown.1, hl, Nat.add_mul]
  have grown : ∀ (old : Nat), old < n + m → ∀ (row : Option Nat),
      OwnZ (w.drew.alloc (.cells (xs.toArray ++ news.toArray ++ Builtin.zeroCells z.cells (grownCap w (n + m) old e - (n + m))) e)) base e zs (.slice (some ⟨w.heap.size, 0, none⟩) (n + m) (grownCap w (n + m) old e)) (n + m) (xs ++ news) ∧
      w.grownBy (w.drew.alloc (.cells (xs.toArray ++ news.toArray ++ Builtin.zeroCells z.cells (grownCap w (n + m) old e - (n + m))) e)) row := by
    intro old ho row
    have hge := grownCap_ge w (n + m) old e
    have hcm : grownCap w (n + m) old e ≤ maxLen := grownCap_le_maxLen w (n + m) old e h63
    refine ⟨⟨hlen, .inr ⟨w.heap.size, _, rfl, hbase, ?_, hge, hcm⟩⟩, ⟨rfl, rfl, rfl, by simp, fun k hk _ => Below.heap_alloc w.drew _ k hk⟩⟩
    have h0 := heap_alloc_new w.drew (.cells (xs.toArray ++ news.toArray ++ Builtin.zeroCells z.cells (grownCap w (n + m) old e - (n + m))) e)
    refine Eq.trans h0 ?_
    congr 2
    apply Array.toList_inj.1
    rw [Array.toList_append, Array.toList_append, hzs, zeroCells_repL]
  rcases hown.2 with ⟨rfl, rfl⟩ | ⟨g, cap, rfl, hbg, hg, hnc, hcm⟩
  · have hx : xs = [] := List.eq_nil_of_length_eq_zero (by simpa using hown.1)
    subst hx
    have hr := run_append_nil (P := P) w t ty e i z ht hi hz a m c news (by rw [hl, hsize]) hnews (by omega) (by omega) (by have hb := hbytes; simp only [Nat.zero_add] at hb; omega)
    have hgr := grown 0 (by omega) (Value.ownBlock (.slice none 0 0))
    have hgn := (grown 0 (by omega) none).2
    simp only [Nat.zero_add, List.nil_append, Array.empty_append] at hgr hgn ⊢
    exact ⟨_, _, hr, hgr.1, hgr.2, .inr ⟨rfl, hgn⟩⟩
  · by_cases hroom : n + m ≤ cap
    · have hcs : ((xs ++ repL zs (cap - n)).toArray).size = cap * zs.length := by
        simp only [List.size_toArray, List.length_append, hown.1, repL_length, ← Nat.add_mul]; congr 1; omega
      have hfit : n * i.size + news.length ≤ ((xs ++ repL zs (cap - n)).toArray).size := by rw [hl, hcs, hsize, ← Nat.add_mul]; exact Nat.mul_le_mul_right _ hroom
      have hr := run_append_room (P := P) w t ty e i ht hi g n cap _ hg a m c news (by rw [hl, hsize]) hnews h1 hroom hfit
      refine ⟨_, _, hr, ⟨hlen, .inr ⟨g, cap, rfl, hbg, ?_, hroom, hcm⟩⟩, ⟨rfl, rfl, rfl, by simp, fun k _ hk => setRow_other w g k _ (fun e => hk (by simp [Value.ownBlock, e]))⟩, .inl rfl⟩
      refine (setRow_heap w g _ _ e _ hg).trans ?_
      congr 3
      have e1 : n * i.size = xs.length := by rw [hsize, hown.1]
      have e2 : (xs ++ repL zs (cap - n)).drop (n * i.size + news.length) = repL zs (cap - (n + m)) := by
        rw [e1, List.drop_append, List.drop_eq_nil_of_le (by omega), List.nil_append, Nat.add_sub_cancel_left, hl, repL_drop zs (cap - n) m (by omega)]
        congr 1; omega
      simp only [e2]
      rw [e1]
      simp
    · have holds : ∀ j u, xs[j]? = some u → w.cell? ((⟨g, 0, none⟩ : Addr).add j) = some u := hown.own.cells (g := g) rfl
      have hr := run_append_grow (P := P) w t ty e i z ht hi hz ⟨g, 0, none⟩ n cap xs (by rw [hown.1, hsize]) holds a m c news (by rw [hl, hsize]) hnews (by omega) (by omega) (growslice_fits (by omega) hbytes)
      have hgr := grown cap (by omega) (Value.ownBlock (.slice (some ⟨g, 0, none⟩) n cap))
      exact ⟨_, _, hr, hgr.1, hgr.2, .inr ⟨rfl, (grown cap (by omega) none).2⟩⟩
theorem wpList_append_Z {ops : Array Oper} {rest : List Oper} {o : Oper} {a : Act} {w : World} {Q : Exit → Act → World → Prop} (hgd : o.guard = none) (s x : Operand) (t : TypeId)
    (ho : o.op = .call { callee := .builtin .append, args := #[s, x], argTypes := #[t, t] })
    (base : Nat) (e : TypeId) (i : TypeInfo) (z : Value) (zs : List Value) (bytes : Nat) (ht : P.underlying t = some (.slice e)) (hi : P.info? e = some i) (hz : i.zero = some z)
    (hsize : i.size = zs.length) (hby : i.bytes = bytes) (hzs : z.cells = zs.toArray) (hsz : 0 < zs.length)
    (v : Value) (n : Nat) (xs : List Value) (hs : a.eval s = v) (hown : OwnZ w base e zs v n xs)
    (ad : Addr) (m c : Nat) (news : List Value) (hx : a.eval x = .slice (some ad) m c) (hm : 0 < m) (hl : news.length = m * zs.length) (hnews : ∀ j u, news[j]? = some u → w.cell? (ad.add j) = some u) (h1 : ∀ u ∈ news, u.oneCell' = true)
    (h63 : n + m ≤ maxLen) (hbytes : (n + m) * bytes ≤ 140737488355328) (hbase : base ≤ w.heap.size)
    (h : ∀ v' w', OwnZ w' base e zs v' (n + m) (xs ++ news) → w.grownBy w' v.ownBlock → (v'.ownBlock = v.ownBlock ∨ (v'.ownBlock = some w.heap.size ∧ w.grownBy w' none)) → wpList P ops Q rest (a.put o.dst v') w') :
    wpList P ops Q (o :: rest) a w := by
  refine wpList_plain hgd fun K hK => ?_
  obtain ⟨v', w', hr, h2, h3, h5⟩ := run_append_Z (P := P) w base t o.type e i z zs bytes ht hi hz hsize hby hzs hsz v n xs hown ad m c news hm hl hnews h1 h63 hbytes hbase
  unfold Oper.wp execOp
  simp only [ho, resolve, invoke, builtin, Sem.run_bind, Sem.run_pure, Result.andThen_ok, List.map_toArray, List.map_cons, List.map_nil, hs, hx, hr]
  exact hK _ _ (h v' w' h2 h3 h5)
end
end Go.Proofs.YtcldbjgikkfnbaaGreatDoor
