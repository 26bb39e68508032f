/- Reading arguments. -/
import Derived.Test.YtdipagkcdpcnbaaGreatTy
import Derived.Test.YtdipagkcdpcnbaaGreatRows
import Derived.Test.YtdipagkcdpcnbaaGreatRBase
import Derived.ChangeArms
import Derived.KernelRfl
namespace Go.Pl
open Go Go.RowKit Go.Sx Go.Qx Go.Proofs.YtdipagkcdpcnbaaGreat

def allS (w : World) : S := ⟨w, fun b => match w.heap[b]? with | some (.cells c _ _) => (c.size, 0) | _ => (0, 0)⟩
theorem sealed_all {w : World} {b o : Nat} {cs : List Value} (hn : cs ≠ []) (h : w.rangeAt b o cs) : Sealed (allS w) b o cs := by
  refine ⟨?_, h⟩
  have hl : 0 < cs.length := List.length_pos_iff.2 hn
  have hj := h (cs.length - 1) _ (List.getElem?_eq_getElem (by omega))
  unfold World.cell? at hj
  simp only at hj
  split at hj
  · rename_i c e f hb
    have h2 : o + (cs.length - 1) < c.size := by
      simp only [Option.isSome_none, Bool.false_eq_true, if_false] at hj
      exact (Array.getElem?_eq_some_iff.1 hj).1
    show o + cs.length ≤ (match w.heap[b]? with | some (.cells c _ _) => (c.size, 0) | _ => (0, 0)).1
    rw [hb]
    show o + cs.length ≤ c.size
    omega
  · cases hj
theorem cells?_inv {w : World} {base : Nat} {a : Addr} {n : Nat} {cs : List Value} (h : w.cells? base a n = some cs) :
    cs.length = n ∧ ∀ (i : Nat) (v : Value), cs[i]? = some v → w.cell? (a.add i) = some v := by
  unfold World.cells? at h
  split at h
  · have hl : cs.length = n := by simpa using mapM_some_length h
    refine ⟨hl, fun i v hv => ?_⟩
    have hi : i < n := by have := (List.getElem?_eq_some_iff.1 hv).1; omega
    have := mapM_some_get h i i (by simp [hi])
    rw [this, hv]
  · cases h
theorem add_add (a : Addr) (x j : Nat) : (a.add x).add j = a.add (x + j) := by
  unfold Addr.add
  by_cases hx : x = 0
  · subst hx; simp
  · by_cases hj : j = 0
    · subst hj; simp [hx]
    · rw [if_neg hj, if_neg hx, if_neg (by omega), Nat.add_assoc]
theorem spot_none {w : World} {a : Addr} {v : Value} (h : w.cell? a = some v) : a.spot = none := by
  unfold World.cell? at h
  split at h
  · split at h
    · cases h
    · rename_i hs; simpa using hs
  · cases h

section
variable {H : Type} {enc : TypeId × Value → H} {P : Program} {w : World} {base : Nat} {spare : Nat → Bool} {held : Bool}
theorem read_slice {α : Type} [Rp α] {fuel : Nat} {t e : TypeId} {cs : List Value} {x : DataW H × List MemPlace} (ht : P.underlying t = some (.slice e)) (hc : P.cellsOf e = Rp.sz α) (bk : α → Nat)
    (hrd : ∀ (n : Nat) (cs : List Value) (x : DataW H × List MemPlace), n < fuel → DataW.trod enc P w base spare held n e cs = some x → ∃ d : α, Rp.cells (allS w) d cs ∧ bk d ≤ Rows.uptoBulk x.1)
    (h : DataW.trod enc P w base spare held fuel t cs = some x) :
    ∃ (ds : List α) (A : Option Addr) (c : Nat), cs = [.slice A ds.length c] ∧ Sl (allS w) ds A c ∧ (ds.map bk).sum + 1 ≤ Rows.uptoBulk x.1 := by
  rcases DataW.trod_slice ht h with ⟨rfl, rfl⟩ | ⟨a, len, cap, elems, rest, n, rfl, rfl, rfl, hb, hl, hm, hle, hget, -, -⟩
  · exact ⟨[], none, 0, rfl, Sl.nil_ _ _ _ (Nat.zero_le _), by simp [Rows.uptoBulk]⟩
  have key : ∀ (m i : Nat), i + m = len → ∃ (ds : List α) (cs : List Value), ds.length = m ∧ Flat (allS w) ds cs ∧
      (∀ (j : Nat) (v : Value), cs[j]? = some v → w.cell? (a.add (i * Rp.sz α + j)) = some v) ∧ (ds.map bk).sum ≤ Rows.uptoBulkAll ((elems.drop i).map (·.1)) := by
    intro m
    induction m with
    | zero => intro i _; exact ⟨[], [], rfl, rfl, fun j v hv => by simp at hv, by simp⟩
    | succ m ih =>
      intro i hi
      obtain ⟨ds, cs, h1, h2, h3, h4⟩ := ih (i + 1) (by omega)
      have hlt : i < elems.length := by omega
      have hg := hget i (by omega)
      rw [List.getElem?_eq_getElem hlt, Option.bind_eq_some_iff] at hg
      obtain ⟨cs0, hcs, htr⟩ := hg
      obtain ⟨d, hd, hbk⟩ := hrd n cs0 _ (by omega) htr
      obtain ⟨hcl, hci⟩ := cells?_inv hcs
      rw [hc] at hcl hci
      refine ⟨d :: ds, cs0 ++ cs, by simp [h1], ⟨cs0, cs, rfl, hd, h2⟩, ?_, ?_⟩
      · intro j v hv
        by_cases hj : j < Rp.sz α
        · rw [List.getElem?_append_left (by omega)] at hv
          rw [← add_add]
          exact hci j v hv
        · rw [List.getElem?_append_right (by omega)] at hv
          have := h3 _ v hv
          rw [hcl, Nat.add_mul, Nat.one_mul] at this
          have e : i * Rp.sz α + Rp.sz α + (j - Rp.sz α) = i * Rp.sz α + j := by omega
          rw [e] at this
          exact this
      · rw [List.drop_eq_getElem_cons hlt]
        simp only [List.map_cons, List.sum_cons, Rows.uptoBulkAll]
        omega
  obtain ⟨ds, cs, h1, h2, h3, h4⟩ := key len 0 (by omega)
  simp only [Nat.zero_mul, Nat.zero_add, List.drop_zero] at h3 h4
  refine ⟨ds, some a, cap, by rw [h1], ⟨by omega, hm, cs, h2, fun hn => ?_⟩, by simp only [Rows.uptoBulk]; omega⟩
  have hne := h2.ne_nil hn
  cases cs with
  | nil => exact absurd rfl hne
  | cons v0 r =>
    have h0 := h3 0 v0 rfl
    have hs : a.spot = none := spot_none (by simpa [Addr.add] using h0)
    obtain ⟨b, o, sp⟩ := a
    simp only at hs
    subst hs
    refine ⟨b, o, rfl, sealed_all (by simp) ?_⟩
    intro j v hv
    have := h3 j v hv
    unfold Addr.add at this
    by_cases hj : j = 0
    · subst hj; simpa using this
    · rw [if_neg hj] at this
      exact this
end
theorem len2 {α : Type} {l : List α} (h : l.length = 2) : ∃ a b, l = [a, b] := by
  match l, h with
  | [a, b], _ => exact ⟨a, b, rfl⟩
theorem str_len (s : ByteArray) : s.data.toList.length = s.size := Array.length_toList
theorem bulkKeys_sum : ∀ l : List Key, bulkKeys l = (l.map bulkKey).sum
  | [] => rfl
  | x :: r => by simp only [bulkKeys, List.map_cons, List.sum_cons, bulkKeys_sum r]
theorem bulkStrs_sum : ∀ l : List ByteArray, bulkStrs l = (l.map bulkStr).sum
  | [] => rfl
  | x :: r => by simp only [bulkStrs, List.map_cons, List.sum_cons, bulkStrs_sum r]
end Go.Pl
namespace Go.Pl
open Go Go.RowKit Go.Sx Go.Qx Go.Proofs.YtdipagkcdpcnbaaGreat

theorem len3 {α : Type} {l : List α} (h : l.length = 3) : ∃ a b c, l = [a, b, c] := by
  match l, h with
  | [a, b, c], _ => exact ⟨a, b, c, rfl⟩
theorem len7 {α : Type} {l : List α} (h : l.length = 7) : ∃ a b c d e f g, l = [a, b, c, d, e, f, g] := by
  match l, h with
  | [a, b, c, d, e, f, g], _ => exact ⟨a, b, c, d, e, f, g, rfl⟩
theorem len9 {α : Type} {l : List α} (h : l.length = 9) : ∃ a b r, l = a :: b :: r ∧ r.length = 7 := by
  match l, h with
  | a :: b :: r, h => exact ⟨a, b, r, rfl, by simpa using h⟩
theorem sumVs : ∀ l : List Val, bulkVs l = (l.map bulkV).sum
  | [] => rfl
  | x :: r => by simp only [bulkVs, List.map_cons, List.sum_cons, sumVs r]
theorem sumEs : ∀ l : List Ent, bulkEs l = (l.map bulkE).sum
  | [] => rfl
  | x :: r => by simp only [bulkEs, List.map_cons, List.sum_cons, sumEs r]
theorem c28 : Go.Proofs.Tryz.prog.cellsOf 28 = 7 := by kernel_rfl
theorem c114 : Go.Proofs.Tryz.prog.cellsOf 114 = 2 := by kernel_rfl
theorem c30 : Go.Proofs.Tryz.prog.cellsOf 30 = 9 := by kernel_rfl
theorem c9 : Go.Proofs.Tryz.prog.cellsOf 9 = 1 := by kernel_rfl
theorem c2 : Go.Proofs.Tryz.prog.cellsOf 2 = 1 := by kernel_rfl
theorem c4 : Go.Proofs.Tryz.prog.cellsOf 4 = 1 := by kernel_rfl
theorem c23 : Go.Proofs.Tryz.prog.cellsOf 23 = 1 := by kernel_rfl
theorem c24 : Go.Proofs.Tryz.prog.cellsOf 24 = 1 := by kernel_rfl
theorem c25 : Go.Proofs.Tryz.prog.cellsOf 25 = 1 := by kernel_rfl
theorem c26 : Go.Proofs.Tryz.prog.cellsOf 26 = 1 := by kernel_rfl
theorem c3 : Go.Proofs.Tryz.prog.cellsOf 3 = 1 := by kernel_rfl
section
variable {H : Type} {enc : TypeId × Value → H} {w : World} {base : Nat} {spare : Nat → Bool} {held : Bool}
theorem read_int {n : Nat} {cs : List Value} {x : DataW H × List MemPlace} (h : DataW.trod enc Go.Proofs.Tryz.prog w base spare held n 3 cs = some x) :
    ∃ d : Int, Rp.cells (allS w) d cs ∧ (0 : Nat) ≤ Rows.uptoBulk x.1 := by
  obtain ⟨k, e0, _, _⟩ := DataW.trod_int Go.Proofs.Tryz.underlying3 h
  exact ⟨k, e0, Nat.zero_le _⟩
theorem read_str {n : Nat} {cs : List Value} {x : DataW H × List MemPlace} (h : DataW.trod enc Go.Proofs.Tryz.prog w base spare held n 9 cs = some x) :
    ∃ d : ByteArray, Rp.cells (allS w) d cs ∧ bulkStr d ≤ Rows.uptoBulk x.1 := by
  obtain ⟨s, rfl, rfl, _⟩ := DataW.trod_string Go.Proofs.Tryz.underlying9 h
  refine ⟨s, rfl, ?_⟩
  simp only [Rows.uptoBulk, bulkStr]
  have : s.data.toList.length = s.size := str_len s
  omega
theorem read_key {n : Nat} {cs : List Value} {x : DataW H × List MemPlace} (h : DataW.trod enc Go.Proofs.Tryz.prog w base spare held n 114 cs = some x) :
    ∃ d : Key, Rp.cells (allS w) d cs ∧ bulkKey d ≤ Rows.uptoBulk x.1 := by
  obtain ⟨xs, n, rfl, rfl, hl, hx, hf⟩ := DataW.trod_struct Go.Proofs.Tryz.underlying114 h
  rw [c114] at hl
  have hx : xs.length = 2 := hx
  obtain ⟨v0, v1, rfl⟩ := len2 hl
  obtain ⟨x0, x1, rfl⟩ := len2 hx
  have f0 : DataW.trod enc Go.Proofs.Tryz.prog w base spare held n 3 (([v0, v1].drop 0).take (Go.Proofs.Tryz.prog.cellsOf 3)) = [x0, x1][0]? := hf 0 _ rfl
  have f1 : DataW.trod enc Go.Proofs.Tryz.prog w base spare held n 9 (([v0, v1].drop 1).take (Go.Proofs.Tryz.prog.cellsOf 9)) = [x0, x1][1]? := hf 1 _ rfl
  rw [c3] at f0
  rw [c9] at f1
  obtain ⟨k, e0, rfl, _⟩ := DataW.trod_int Go.Proofs.Tryz.underlying3 (x := x0) f0
  obtain ⟨s, e1, hb⟩ := read_str (x := x1) f1
  obtain rfl : v0 = .int .i64 k := by simpa using e0
  have e1' : [v1] = [Value.string s] := e1
  obtain rfl : v1 = .string s := by simpa using e1'
  refine ⟨⟨k, s⟩, rfl, ?_⟩
  simp only [bulkKey, Rows.uptoBulk, Rows.uptoBulkAll, List.map_cons, List.map_nil]
  omega
theorem read_all : ∀ n : Nat, (∀ cs x, DataW.trod enc Go.Proofs.Tryz.prog w base spare held n 28 cs = some x → ∃ d : Val, Rp.cells (allS w) d cs ∧ bulkV d ≤ Rows.uptoBulk x.1) ∧
    (∀ cs x, DataW.trod enc Go.Proofs.Tryz.prog w base spare held n 30 cs = some x → ∃ d : Ent, Rp.cells (allS w) d cs ∧ bulkE d ≤ Rows.uptoBulk x.1) := by
  intro n
  induction n using Nat.strongRecOn with
  | _ n ih =>
  refine ⟨?_, ?_⟩
  · intro cs x h
    obtain ⟨xs, m, rfl, rfl, hl, hx, hf⟩ := DataW.trod_struct Go.Proofs.Tryz.underlying28 h
    rw [c28] at hl
    have hx : xs.length = 7 := hx
    obtain ⟨v0, v1, v2, v3, v4, v5, v6, rfl⟩ := len7 hl
    obtain ⟨x0, x1, x2, x3, x4, x5, x6, rfl⟩ := len7 hx
    have f0 : DataW.trod enc Go.Proofs.Tryz.prog w base spare held m 3 (([v0, v1, v2, v3, v4, v5, v6].drop 0).take (Go.Proofs.Tryz.prog.cellsOf 3)) = [x0, x1, x2, x3, x4, x5, x6][0]? := hf 0 _ rfl
    have f1 : DataW.trod enc Go.Proofs.Tryz.prog w base spare held m 2 (([v0, v1, v2, v3, v4, v5, v6].drop 1).take (Go.Proofs.Tryz.prog.cellsOf 2)) = [x0, x1, x2, x3, x4, x5, x6][1]? := hf 1 _ rfl
    have f2 : DataW.trod enc Go.Proofs.Tryz.prog w base spare held m 9 (([v0, v1, v2, v3, v4, v5, v6].drop 2).take (Go.Proofs.Tryz.prog.cellsOf 9)) = [x0, x1, x2, x3, x4, x5, x6][2]? := hf 2 _ rfl
    have f3 : DataW.trod enc Go.Proofs.Tryz.prog w base spare held m 23 (([v0, v1, v2, v3, v4, v5, v6].drop 3).take (Go.Proofs.Tryz.prog.cellsOf 23)) = [x0, x1, x2, x3, x4, x5, x6][3]? := hf 3 _ rfl
    have f4 : DataW.trod enc Go.Proofs.Tryz.prog w base spare held m 24 (([v0, v1, v2, v3, v4, v5, v6].drop 4).take (Go.Proofs.Tryz.prog.cellsOf 24)) = [x0, x1, x2, x3, x4, x5, x6][4]? := hf 4 _ rfl
    have f5 : DataW.trod enc Go.Proofs.Tryz.prog w base spare held m 25 (([v0, v1, v2, v3, v4, v5, v6].drop 5).take (Go.Proofs.Tryz.prog.cellsOf 25)) = [x0, x1, x2, x3, x4, x5, x6][5]? := hf 5 _ rfl
    have f6 : DataW.trod enc Go.Proofs.Tryz.prog w base spare held m 26 (([v0, v1, v2, v3, v4, v5, v6].drop 6).take (Go.Proofs.Tryz.prog.cellsOf 26)) = [x0, x1, x2, x3, x4, x5, x6][6]? := hf 6 _ rfl
    rw [c3] at f0
    rw [c2] at f1
    rw [c9] at f2
    rw [c23] at f3
    rw [c24] at f4
    rw [c25] at f5
    rw [c26] at f6
    obtain ⟨k, e0, rfl, _⟩ := DataW.trod_int Go.Proofs.Tryz.underlying3 (x := x0) f0
    obtain ⟨i, e1, rfl, _⟩ := DataW.trod_int Go.Proofs.Tryz.underlying2 (x := x1) f1
    obtain ⟨s, e2, hb2⟩ := read_str (x := x2) f2
    obtain ⟨kids, A3, n3, e3, s3, hb3⟩ := read_slice (x := x3) Go.Proofs.Tryz.underlying23 c28 bulkV (fun n cs x hn h => (ih n (by omega)).1 cs x h) f3
    obtain ⟨keys, A4, n4, e4, s4, hb4⟩ := read_slice (x := x4) Go.Proofs.Tryz.underlying24 c114 bulkKey (fun n cs x hn h => read_key h) f4
    obtain ⟨ents, A5, n5, e5, s5, hb5⟩ := read_slice (x := x5) Go.Proofs.Tryz.underlying25 c30 bulkE (fun n cs x hn h => (ih n (by omega)).2 cs x h) f5
    obtain ⟨labs, A6, n6, e6, s6, hb6⟩ := read_slice (x := x6) Go.Proofs.Tryz.underlying26 c9 bulkStr (fun n cs x hn h => read_str h) f6
    have e2' : [v2] = [Value.string s] := e2
    obtain rfl : v0 = .int .i64 k := by simpa using e0
    obtain rfl : v1 = .int .i64 i := by simpa using e1
    obtain rfl : v2 = .string s := by simpa using e2'
    obtain rfl : v3 = .slice A3 kids.length n3 := by simpa using e3
    obtain rfl : v4 = .slice A4 keys.length n4 := by simpa using e4
    obtain rfl : v5 = .slice A5 ents.length n5 := by simpa using e5
    obtain rfl : v6 = .slice A6 labs.length n6 := by simpa using e6
    refine ⟨.mk k i s kids keys ents labs, Val.cells_iff.2 ⟨A3, n3, A4, n4, A5, n5, A6, n6, rfl, s3, s4, s5, s6⟩, ?_⟩
    simp only [bulkV, Rows.uptoBulk, Rows.uptoBulkAll, List.map_cons, List.map_nil, sumVs, sumEs, bulkKeys_sum, bulkStrs_sum]
    omega
  · intro cs x h
    obtain ⟨xs, m, rfl, rfl, hl, hx, hf⟩ := DataW.trod_struct Go.Proofs.Tryz.underlying30 h
    rw [c30] at hl
    have hx : xs.length = 3 := hx
    obtain ⟨x0, x1, x2, rfl⟩ := len3 hx
    obtain ⟨v0, v1, r, rfl, hr⟩ := len9 hl
    have f0 : DataW.trod enc Go.Proofs.Tryz.prog w base spare held m 23 (((v0 :: v1 :: r).drop 0).take (Go.Proofs.Tryz.prog.cellsOf 23)) = [x0, x1, x2][0]? := hf 0 _ rfl
    have f1 : DataW.trod enc Go.Proofs.Tryz.prog w base spare held m 4 (((v0 :: v1 :: r).drop 1).take (Go.Proofs.Tryz.prog.cellsOf 4)) = [x0, x1, x2][1]? := hf 1 _ rfl
    have f2 : DataW.trod enc Go.Proofs.Tryz.prog w base spare held m 28 (((v0 :: v1 :: r).drop 2).take (Go.Proofs.Tryz.prog.cellsOf 28)) = [x0, x1, x2][2]? := hf 2 _ rfl
    rw [c23] at f0
    rw [c4] at f1
    rw [c28] at f2
    have f2' : DataW.trod enc Go.Proofs.Tryz.prog w base spare held m 28 (r.take 7) = some x2 := f2
    rw [List.take_of_length_le (by omega)] at f2'
    obtain ⟨args, A3, n3, e3, s3, hb3⟩ := read_slice (x := x0) Go.Proofs.Tryz.underlying23 c28 bulkV (fun n cs x hn h => (ih n (by omega)).1 cs x h) f0
    obtain ⟨b, e1, rfl⟩ := DataW.trod_bool Go.Proofs.Tryz.underlying4 (x := x1) f1
    obtain ⟨res, hres, hb2⟩ := (ih m (by omega)).1 _ _ f2'
    obtain rfl : v0 = .slice A3 args.length n3 := by simpa using e3
    obtain rfl : v1 = .bool b := by simpa using e1
    obtain ⟨A1, n1, A4, n4, A5, n5, A6, n6, rfl, q3, q4, q5, q6⟩ := Val.cells_iff.1 hres
    refine ⟨.mk args b res, Ent.cells_iff.2 ⟨A3, n3, A1, n1, A4, n4, A5, n5, A6, n6, rfl, s3, q3, q4, q5, q6⟩, ?_⟩
    simp only [bulkE, Rows.uptoBulk, Rows.uptoBulkAll, List.map_cons, List.map_nil, sumVs]
    omega
end
end Go.Pl
