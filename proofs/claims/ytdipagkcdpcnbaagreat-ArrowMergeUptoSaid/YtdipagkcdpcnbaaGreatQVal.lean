/- Values, keys and entries for the executor's tables. -/
import Derived.Test.YtdipagkcdpcnbaaGreatQTab
import Derived.Test.YtdipagkcdpcnbaaGreatSxVal
namespace Go.Qx
open Go Go.RowKit Go.Sx
end Go.Qx
namespace Go.Sx
open Go Go.RowKit Go.Qx
abbrev Key.to (v : Key) : Int × ByteArray := (v.Kind, v.Text)
abbrev Key.of (x : Int × ByteArray) : Key := ⟨x.1, x.2⟩
theorem Key.cells_to (σ : S) (v : Key) (cs : List Value) : rpKey.cells σ v cs ↔ (rpProd (rpK .i64) rpStr).cells σ v.to cs := by
  constructor
  · intro h
    have h : cs = [.int .i64 v.Kind, .string v.Text] := h
    exact ⟨[_], [_], h, rfl, rfl⟩
  · rintro ⟨c1, c2, e, rfl, rfl⟩
    exact e
abbrev Val.to (v : Val) : Int × (Int × (ByteArray × (List Val × (List Key × (List Ent × List ByteArray))))) := (v.Kind, v.Int_, v.Text, v.Kids, v.Keys, v.Entries, v.Labels)
abbrev Val.of (x : Int × (Int × (ByteArray × (List Val × (List Key × (List Ent × List ByteArray)))))) : Val := .mk x.1 x.2.1 x.2.2.1 x.2.2.2.1 x.2.2.2.2.1 x.2.2.2.2.2.1 x.2.2.2.2.2.2
theorem Val.cells_to (σ : S) (v : Val) (cs : List Value) : rpVal.cells σ v cs ↔
    (rpProd (rpK .i64) (rpProd (rpK .i64) (rpProd rpStr (rpProd (@rpList _ rpVal) (rpProd (@rpList _ rpKey) (rpProd (@rpList _ rpEnt) (@rpList _ rpStr))))))).cells σ v.to cs := by
  refine Val.cells_iff.trans ?_
  constructor
  · rintro ⟨A1, c1, A2, c2, A3, c3, A4, c4, e, h1, h2, h3, h4⟩
    exact ⟨[_], _, e, rfl, [_], _, rfl, rfl, [_], _, rfl, rfl, [_], _, rfl, ⟨A1, c1, rfl, h1⟩, [_], _, rfl, ⟨A2, c2, rfl, h2⟩, [_], _, rfl, ⟨A3, c3, rfl, h3⟩, A4, c4, rfl, h4⟩
  · rintro ⟨_, _, rfl, rfl, _, _, rfl, rfl, _, _, rfl, rfl, _, _, rfl, ⟨A1, c1, rfl, h1⟩, _, _, rfl, ⟨A2, c2, rfl, h2⟩, _, _, rfl, ⟨A3, c3, rfl, h3⟩, A4, c4, rfl, h4⟩
    exact ⟨A1, c1, A2, c2, A3, c3, A4, c4, rfl, h1, h2, h3, h4⟩
abbrev Ent.to (v : Ent) : List Val × (Bool × Val) := (v.Args, v.Fails, v.Result)
abbrev Ent.of (x : List Val × (Bool × Val)) : Ent := .mk x.1 x.2.1 x.2.2
theorem Ent.cells_to (σ : S) (v : Ent) (cs : List Value) : rpEnt.cells σ v cs ↔ (rpProd (@rpList _ rpVal) (rpProd rpBool rpVal)).cells σ v.to cs := by
  cases v with
  | mk args fails res =>
    constructor
    · intro h
      have h : RE σ (.mk args fails res) cs := h
      simp only [RE] at h
      obtain ⟨A, c, f, r, rfl, h1, h2, h3⟩ := h
      exact ⟨[_], _, rfl, ⟨A, c, rfl, h1.sl (RVs.flat.1 h2)⟩, [_], _, rfl, rfl, h3⟩
    · rintro ⟨_, _, rfl, ⟨A, c, rfl, h1⟩, _, r, rfl, rfl, h2⟩
      show RE σ (.mk args fails res) _
      simp only [RE]
      obtain ⟨f, j1, j2⟩ := SlC.of h1
      exact ⟨A, c, f, r, rfl, j1, RVs.flat.2 j2, h2⟩
end Go.Sx
