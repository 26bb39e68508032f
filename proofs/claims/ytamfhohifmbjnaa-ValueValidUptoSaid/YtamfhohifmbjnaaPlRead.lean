/- From what an argument reads as, to the data of the walks: values. -/
import Derived.Test.YtamfhohifmbjnaaPlRead0
import Derived.Test.YtamfhohifmbjnaaPlBase
namespace Go.Sx
open Go Go.RowKit Go.Proofs.Ytamfhohifmbjnaa

theorem len2 {α : Type} {l : List α} (h : l.length = 2) : ∃ a b, l = [a, b] := by
  match l, h with
  | [a, b], _ => exact ⟨a, b, rfl⟩
theorem len3 {α : Type} {l : List α} (h : l.length = 3) : ∃ a b c, l = [a, b, c] := by
  match l, h with
  | [a, b, c], _ => exact ⟨a, b, c, rfl⟩
theorem len7 {α : Type} {l : List α} (h : l.length = 7) : ∃ a b c d e f g, l = [a, b, c, d, e, f, g] := by
  match l, h with
  | [a, b, c, d, e, f, g], _ => exact ⟨a, b, c, d, e, f, g, rfl⟩
theorem len9 {α : Type} {l : List α} (h : l.length = 9) : ∃ a b r, l = a :: b :: r ∧ r.length = 7 := by
  match l, h with
  | a :: b :: r, h => exact ⟨a, b, r, rfl, by simpa using h⟩
theorem str_len (s : ByteArray) : s.data.toList.length = s.size := Array.length_toList
theorem bulkVs_sum : ∀ l : List Val, bulkVs l = (l.map bulkV).sum
  | [] => rfl
  | x :: r => by simp only [bulkVs, List.map_cons, List.sum_cons, bulkVs_sum r]
theorem bulkEs_sum : ∀ l : List Ent, bulkEs l = (l.map bulkE).sum
  | [] => rfl
  | x :: r => by simp only [bulkEs, List.map_cons, List.sum_cons, bulkEs_sum r]
theorem bulkKeys_sum : ∀ l : List Key, bulkKeys l = (l.map bulkKey).sum
  | [] => rfl
  | x :: r => by simp only [bulkKeys, List.map_cons, List.sum_cons, bulkKeys_sum r]
theorem bulkStrs_sum : ∀ l : List ByteArray, bulkStrs l = (l.map bulkStr).sum
  | [] => rfl
  | x :: r => by simp only [bulkStrs, List.map_cons, List.sum_cons, bulkStrs_sum r]

theorem c27 : Go.Proofs.Try.prog.cellsOf 27 = 7 := by kernel_rfl
theorem c60 : Go.Proofs.Try.prog.cellsOf 60 = 2 := by kernel_rfl
theorem c65 : Go.Proofs.Try.prog.cellsOf 65 = 9 := by kernel_rfl
theorem c9 : Go.Proofs.Try.prog.cellsOf 9 = 1 := by kernel_rfl
theorem c2 : Go.Proofs.Try.prog.cellsOf 2 = 1 := by kernel_rfl
theorem c4 : Go.Proofs.Try.prog.cellsOf 4 = 1 := by kernel_rfl
theorem c22 : Go.Proofs.Try.prog.cellsOf 22 = 1 := by kernel_rfl
theorem c23 : Go.Proofs.Try.prog.cellsOf 23 = 1 := by kernel_rfl
theorem c24 : Go.Proofs.Try.prog.cellsOf 24 = 1 := by kernel_rfl
theorem c25 : Go.Proofs.Try.prog.cellsOf 25 = 1 := by kernel_rfl

section
variable {H : Type} {enc : TypeId × Value → H} {w : World} {base : Nat} {spare : Nat → Bool} {held : Bool}
theorem read_str {n : Nat} {cs : List Value} {x : DataW H × List MemPlace} (h : DataW.trod enc Go.Proofs.Try.prog w base spare held n 9 cs = some x) :
    ∃ d : ByteArray, Rp.cells (allS w) d cs ∧ bulkStr d ≤ Rows.uptoBulk x.1 := by
  obtain ⟨s, rfl, rfl, _⟩ := DataW.trod_string Go.Proofs.Try.underlying9 h
  refine ⟨s, rfl, ?_⟩
  simp only [Rows.uptoBulk, bulkStr]
  have : s.data.toList.length = s.size := str_len s
  omega
theorem read_key {n : Nat} {cs : List Value} {x : DataW H × List MemPlace} (h : DataW.trod enc Go.Proofs.Try.prog w base spare held n 60 cs = some x) :
    ∃ d : Key, Rp.cells (allS w) d cs ∧ bulkKey d ≤ Rows.uptoBulk x.1 := by
  obtain ⟨xs, n, rfl, rfl, hl, hx, hf⟩ := DataW.trod_struct Go.Proofs.Try.underlying60 h
  rw [c60] at hl
  have hx : xs.length = 2 := hx
  obtain ⟨v0, v1, rfl⟩ := len2 hl
  obtain ⟨x0, x1, rfl⟩ := len2 hx
  have f0 : DataW.trod enc Go.Proofs.Try.prog w base spare held n 3 (([v0, v1].drop 0).take (Go.Proofs.Try.prog.cellsOf 3)) = [x0, x1][0]? := hf 0 _ rfl
  have f1 : DataW.trod enc Go.Proofs.Try.prog w base spare held n 9 (([v0, v1].drop 1).take (Go.Proofs.Try.prog.cellsOf 9)) = [x0, x1][1]? := hf 1 _ rfl
  rw [c3] at f0
  rw [c9] at f1
  obtain ⟨k, e0, rfl, _⟩ := DataW.trod_int Go.Proofs.Try.underlying3 (x := x0) f0
  obtain ⟨s, e1, hb⟩ := read_str (x := x1) f1
  obtain rfl : v0 = .int .i64 k := by simpa using e0
  have e1' : [v1] = [Value.string s] := e1
  obtain rfl : v1 = .string s := by simpa using e1'
  refine ⟨⟨k, s⟩, rfl, ?_⟩
  simp only [bulkKey, Rows.uptoBulk, Rows.uptoBulkAll, List.map_cons, List.map_nil]
  omega
theorem read_all : ∀ n : Nat, (∀ cs x, DataW.trod enc Go.Proofs.Try.prog w base spare held n 27 cs = some x → ∃ d : Val, Rp.cells (allS w) d cs ∧ bulkV d ≤ Rows.uptoBulk x.1) ∧
    (∀ cs x, DataW.trod enc Go.Proofs.Try.prog w base spare held n 65 cs = some x → ∃ d : Ent, Rp.cells (allS w) d cs ∧ bulkE d ≤ Rows.uptoBulk x.1) := by
  intro n
  induction n using Nat.strongRecOn with
  | _ n ih =>
  refine ⟨?_, ?_⟩
  · intro cs x h
    obtain ⟨xs, m, rfl, rfl, hl, hx, hf⟩ := DataW.trod_struct Go.Proofs.Try.underlying27 h
    rw [c27] at hl
    have hx : xs.length = 7 := hx
    obtain ⟨v0, v1, v2, v3, v4, v5, v6, rfl⟩ := len7 hl
    obtain ⟨x0, x1, x2, x3, x4, x5, x6, rfl⟩ := len7 hx
    have f0 : DataW.trod enc Go.Proofs.Try.prog w base spare held m 3 (([v0, v1, v2, v3, v4, v5, v6].drop 0).take (Go.Proofs.Try.prog.cellsOf 3)) = [x0, x1, x2, x3, x4, x5, x6][0]? := hf 0 _ rfl
    have f1 : DataW.trod enc Go.Proofs.Try.prog w base spare held m 2 (([v0, v1, v2, v3, v4, v5, v6].drop 1).take (Go.Proofs.Try.prog.cellsOf 2)) = [x0, x1, x2, x3, x4, x5, x6][1]? := hf 1 _ rfl
    have f2 : DataW.trod enc Go.Proofs.Try.prog w base spare held m 9 (([v0, v1, v2, v3, v4, v5, v6].drop 2).take (Go.Proofs.Try.prog.cellsOf 9)) = [x0, x1, x2, x3, x4, x5, x6][2]? := hf 2 _ rfl
    have f3 : DataW.trod enc Go.Proofs.Try.prog w base spare held m 22 (([v0, v1, v2, v3, v4, v5, v6].drop 3).take (Go.Proofs.Try.prog.cellsOf 22)) = [x0, x1, x2, x3, x4, x5, x6][3]? := hf 3 _ rfl
    have f4 : DataW.trod enc Go.Proofs.Try.prog w base spare held m 23 (([v0, v1, v2, v3, v4, v5, v6].drop 4).take (Go.Proofs.Try.prog.cellsOf 23)) = [x0, x1, x2, x3, x4, x5, x6][4]? := hf 4 _ rfl
    have f5 : DataW.trod enc Go.Proofs.Try.prog w base spare held m 24 (([v0, v1, v2, v3, v4, v5, v6].drop 5).take (Go.Proofs.Try.prog.cellsOf 24)) = [x0, x1, x2, x3, x4, x5, x6][5]? := hf 5 _ rfl
    have f6 : DataW.trod enc Go.Proofs.Try.prog w base spare held m 25 (([v0, v1, v2, v3, v4, v5, v6].drop 6).take (Go.Proofs.Try.prog.cellsOf 25)) = [x0, x1, x2, x3, x4, x5, x6][6]? := hf 6 _ rfl
    rw [c3] at f0
    rw [c2] at f1
    rw [c9] at f2
    rw [c22] at f3
    rw [c23] at f4
    rw [c24] at f5
    rw [c25] at f6
    obtain ⟨k, e0, rfl, _⟩ := DataW.trod_int Go.Proofs.Try.underlying3 (x := x0) f0
    obtain ⟨i, e1, rfl, _⟩ := DataW.trod_int Go.Proofs.Try.underlying2 (x := x1) f1
    obtain ⟨s, e2, hb2⟩ := read_str (x := x2) f2
    obtain ⟨kids, A3, n3, e3, s3, hb3⟩ := read_slice (x := x3) Go.Proofs.Try.underlying22 c27 bulkV (fun n cs x hn h => (ih n (by omega)).1 cs x h) f3
    obtain ⟨keys, A4, n4, e4, s4, hb4⟩ := read_slice (x := x4) Go.Proofs.Try.underlying23 c60 bulkKey (fun n cs x hn h => read_key h) f4
    obtain ⟨ents, A5, n5, e5, s5, hb5⟩ := read_slice (x := x5) Go.Proofs.Try.underlying24 c65 bulkE (fun n cs x hn h => (ih n (by omega)).2 cs x h) f5
    obtain ⟨labs, A6, n6, e6, s6, hb6⟩ := read_slice (x := x6) Go.Proofs.Try.underlying25 c9 bulkStr (fun n cs x hn h => read_str h) f6
    have e2' : [v2] = [Value.string s] := e2
    obtain rfl : v0 = .int .i64 k := by simpa using e0
    obtain rfl : v1 = .int .i64 i := by simpa using e1
    obtain rfl : v2 = .string s := by simpa using e2'
    obtain rfl : v3 = .slice A3 kids.length n3 := by simpa using e3
    obtain rfl : v4 = .slice A4 keys.length n4 := by simpa using e4
    obtain rfl : v5 = .slice A5 ents.length n5 := by simpa using e5
    obtain rfl : v6 = .slice A6 labs.length n6 := by simpa using e6
    refine ⟨.mk k i s kids keys ents labs, Val.cells_iff.2 ⟨A3, n3, A4, n4, A5, n5, A6, n6, rfl, s3, s4, s5, s6⟩, ?_⟩
    simp only [bulkV, Rows.uptoBulk, Rows.uptoBulkAll, List.map_cons, List.map_nil, bulkVs_sum, bulkEs_sum, bulkKeys_sum, bulkStrs_sum]
    omega
  · intro cs x h
    obtain ⟨xs, m, rfl, rfl, hl, hx, hf⟩ := DataW.trod_struct Go.Proofs.Try.underlying65 h
    rw [c65] at hl
    have hx : xs.length = 3 := hx
    obtain ⟨x0, x1, x2, rfl⟩ := len3 hx
    obtain ⟨v0, v1, r, rfl, hr⟩ := len9 hl
    have f0 : DataW.trod enc Go.Proofs.Try.prog w base spare held m 22 (((v0 :: v1 :: r).drop 0).take (Go.Proofs.Try.prog.cellsOf 22)) = [x0, x1, x2][0]? := hf 0 _ rfl
    have f1 : DataW.trod enc Go.Proofs.Try.prog w base spare held m 4 (((v0 :: v1 :: r).drop 1).take (Go.Proofs.Try.prog.cellsOf 4)) = [x0, x1, x2][1]? := hf 1 _ rfl
    have f2 : DataW.trod enc Go.Proofs.Try.prog w base spare held m 27 (((v0 :: v1 :: r).drop 2).take (Go.Proofs.Try.prog.cellsOf 27)) = [x0, x1, x2][2]? := hf 2 _ rfl
    rw [c22] at f0
    rw [c4] at f1
    rw [c27] at f2
    have f2' : DataW.trod enc Go.Proofs.Try.prog w base spare held m 27 (r.take 7) = some x2 := f2
    rw [List.take_of_length_le (by omega)] at f2'
    obtain ⟨args, A3, n3, e3, s3, hb3⟩ := read_slice (x := x0) Go.Proofs.Try.underlying22 c27 bulkV (fun n cs x hn h => (ih n (by omega)).1 cs x h) f0
    obtain ⟨b, e1, rfl⟩ := DataW.trod_bool Go.Proofs.Try.underlying4 (x := x1) f1
    obtain ⟨res, hres, hb2⟩ := (ih m (by omega)).1 _ _ f2'
    obtain rfl : v0 = .slice A3 args.length n3 := by simpa using e3
    obtain rfl : v1 = .bool b := by simpa using e1
    obtain ⟨A1, n1, A4, n4, A5, n5, A6, n6, rfl, q3, q4, q5, q6⟩ := Val.cells_iff.1 hres
    refine ⟨.mk args b res, Ent.cells_iff.2 ⟨A3, n3, A1, n1, A4, n4, A5, n5, A6, n6, rfl, s3, q3, q4, q5, q6⟩, ?_⟩
    simp only [bulkE, Rows.uptoBulk, Rows.uptoBulkAll, List.map_cons, List.map_nil, bulkVs_sum]
    omega
end
end Go.Sx
