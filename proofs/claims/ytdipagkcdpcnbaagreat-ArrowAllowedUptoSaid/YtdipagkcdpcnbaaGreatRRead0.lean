/- From what an argument reads as, to the data of the walks: slices. -/
import Derived.Test.YtdipagkcdpcnbaaGreatTy
import Derived.Test.YtdipagkcdpcnbaaGreatRows
import Derived.Test.YtdipagkcdpcnbaaGreatRBase
import Derived.ChangeArms
import Derived.KernelRfl
namespace Go.Pl
open Go Go.RowKit Go.Sx Go.Qx Go.Proofs.YtdipagkcdpcnbaaGreat

def allS (w : World) : S := ⟨w, fun b => match w.heap[b]? with | some (.cells c _ _) => (c.size, 0) | _ => (0, 0)⟩
theorem sealed_all {w : World} {b o : Nat} {cs : List Value} (hn : cs ≠ []) (h : w.rangeAt b o cs) : Sealed (allS w) b o cs := by
  refine ⟨?_, h⟩
  have hl : 0 < cs.length := List.length_pos_iff.2 hn
  have hj := h (cs.length - 1) _ (List.getElem?_eq_getElem (by omega))
  unfold World.cell? at hj
  simp only at hj
  split at hj
  · rename_i c e f hb
    have h2 : o + (cs.length - 1) < c.size := by
      simp only [Option.isSome_none, Bool.false_eq_true, if_false] at hj
      exact (Array.getElem?_eq_some_iff.1 hj).1
    show o + cs.length ≤ (match w.heap[b]? with | some (.cells c _ _) => (c.size, 0) | _ => (0, 0)).1
    rw [hb]
    show o + cs.length ≤ c.size
    omega
  · cases hj
theorem cells?_inv {w : World} {base : Nat} {a : Addr} {n : Nat} {cs : List Value} (h : w.cells? base a n = some cs) :
    cs.length = n ∧ ∀ (i : Nat) (v : Value), cs[i]? = some v → w.cell? (a.add i) = some v := by
  unfold World.cells? at h
  split at h
  · have hl : cs.length = n := by simpa using mapM_some_length h
    refine ⟨hl, fun i v hv => ?_⟩
    have hi : i < n := by have := (List.getElem?_eq_some_iff.1 hv).1; omega
    have := mapM_some_get h i i (by simp [hi])
    rw [this, hv]
  · cases h
theorem add_add (a : Addr) (x j : Nat) : (a.add x).add j = a.add (x + j) := by
  unfold Addr.add
  by_cases hx : x = 0
  · subst hx; simp
  · by_cases hj : j = 0
    · subst hj; simp [hx]
    · rw [if_neg hj, if_neg hx, if_neg (by omega), Nat.add_assoc]
theorem spot_none {w : World} {a : Addr} {v : Value} (h : w.cell? a = some v) : a.spot = none := by
  unfold World.cell? at h
  split at h
  · split at h
    · cases h
    · rename_i hs; simpa using hs
  · cases h

section
variable {H : Type} {enc : TypeId × Value → H} {P : Program} {w : World} {base : Nat} {spare : Nat → Bool} {held : Bool}
theorem read_slice {α : Type} [Rp α] {fuel : Nat} {t e : TypeId} {cs : List Value} {x : DataW H × List MemPlace} (ht : P.underlying t = some (.slice e)) (hc : P.cellsOf e = Rp.sz α) (bk : α → Nat)
    (hrd : ∀ (n : Nat) (cs : List Value) (x : DataW H × List MemPlace), n < fuel → DataW.trod enc P w base spare held n e cs = some x → ∃ d : α, Rp.cells (allS w) d cs ∧ bk d ≤ Rows.uptoBulk x.1)
    (h : DataW.trod enc P w base spare held fuel t cs = some x) :
    ∃ (ds : List α) (A : Option Addr) (c : Nat), cs = [.slice A ds.length c] ∧ Sl (allS w) ds A c ∧ (ds.map bk).sum + 1 ≤ Rows.uptoBulk x.1 := by
  rcases DataW.trod_slice ht h with ⟨rfl, rfl⟩ | ⟨a, len, cap, elems, rest, n, rfl, rfl, rfl, hb, hl, hm, hle, hget, -, -⟩
  · exact ⟨[], none, 0, rfl, Sl.nil_ _ _ _ (Nat.zero_le _), by simp [Rows.uptoBulk]⟩
  have key : ∀ (m i : Nat), i + m = len → ∃ (ds : List α) (cs : List Value), ds.length = m ∧ Flat (allS w) ds cs ∧
      (∀ (j : Nat) (v : Value), cs[j]? = some v → w.cell? (a.add (i * Rp.sz α + j)) = some v) ∧ (ds.map bk).sum ≤ Rows.uptoBulkAll ((elems.drop i).map (·.1)) := by
    intro m
    induction m with
    | zero => intro i _; exact ⟨[], [], rfl, rfl, fun j v hv => by simp at hv, by simp⟩
    | succ m ih =>
      intro i hi
      obtain ⟨ds, cs, h1, h2, h3, h4⟩ := ih (i + 1) (by omega)
      have hlt : i < elems.length := by omega
      have hg := hget i (by omega)
      rw [List.getElem?_eq_getElem hlt, Option.bind_eq_some_iff] at hg
      obtain ⟨cs0, hcs, htr⟩ := hg
      obtain ⟨d, hd, hbk⟩ := hrd n cs0 _ (by omega) htr
      obtain ⟨hcl, hci⟩ := cells?_inv hcs
      rw [hc] at hcl hci
      refine ⟨d :: ds, cs0 ++ cs, by simp [h1], ⟨cs0, cs, rfl, hd, h2⟩, ?_, ?_⟩
      · intro j v hv
        by_cases hj : j < Rp.sz α
        · rw [List.getElem?_append_left (by omega)] at hv
          rw [← add_add]
          exact hci j v hv
        · rw [List.getElem?_append_right (by omega)] at hv
          have := h3 _ v hv
          rw [hcl, Nat.add_mul, Nat.one_mul] at this
          have e : i * Rp.sz α + Rp.sz α + (j - Rp.sz α) = i * Rp.sz α + j := by omega
          rw [e] at this
          exact this
      · rw [List.drop_eq_getElem_cons hlt]
        simp only [List.map_cons, List.sum_cons, Rows.uptoBulkAll]
        omega
  obtain ⟨ds, cs, h1, h2, h3, h4⟩ := key len 0 (by omega)
  simp only [Nat.zero_mul, Nat.zero_add, List.drop_zero] at h3 h4
  refine ⟨ds, some a, cap, by rw [h1], ⟨by omega, hm, cs, h2, fun hn => ?_⟩, by simp only [Rows.uptoBulk]; omega⟩
  have hne := h2.ne_nil hn
  cases cs with
  | nil => exact absurd rfl hne
  | cons v0 r =>
    have h0 := h3 0 v0 rfl
    have hs : a.spot = none := spot_none (by simpa [Addr.add] using h0)
    obtain ⟨b, o, sp⟩ := a
    simp only at hs
    subst hs
    refine ⟨b, o, rfl, sealed_all (by simp) ?_⟩
    intro j v hv
    have := h3 j v hv
    unfold Addr.add at this
    by_cases hj : j = 0
    · subst hj; simpa using this
    · rw [if_neg hj] at this
      exact this
end
theorem len2 {α : Type} {l : List α} (h : l.length = 2) : ∃ a b, l = [a, b] := by
  match l, h with
  | [a, b], _ => exact ⟨a, b, rfl⟩
theorem str_len (s : ByteArray) : s.data.toList.length = s.size := Array.length_toList
theorem bulkKeys_sum : ∀ l : List Key, bulkKeys l = (l.map bulkKey).sum
  | [] => rfl
  | x :: r => by simp only [bulkKeys, List.map_cons, List.sum_cons, bulkKeys_sum r]
theorem bulkStrs_sum : ∀ l : List ByteArray, bulkStrs l = (l.map bulkStr).sum
  | [] => rfl
  | x :: r => by simp only [bulkStrs, List.map_cons, List.sum_cons, bulkStrs_sum r]
end Go.Pl
