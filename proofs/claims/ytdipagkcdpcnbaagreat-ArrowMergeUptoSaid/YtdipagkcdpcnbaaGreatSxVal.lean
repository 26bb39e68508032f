/- The data of the program's values: keys, values, entries. -/
import Derived.Test.YtdipagkcdpcnbaaGreatSxMore
namespace Go.Sx
open Go Go.RowKit

structure Key where
  Kind : Int
  Text : ByteArray
mutual
inductive Val where
  | mk (Kind : Int) (Int_ : Int) (Text : ByteArray) (Kids : List Val) (Keys : List Key) (Entries : List Ent) (Labels : List ByteArray)
inductive Ent where
  | mk (Args : List Val) (Fails : Bool) (Result : Val)
end
namespace Val
def Kind : Val → Int | mk a _ _ _ _ _ _ => a
def Int_ : Val → Int | mk _ a _ _ _ _ _ => a
def Text : Val → ByteArray | mk _ _ a _ _ _ _ => a
def Kids : Val → List Val | mk _ _ _ a _ _ _ => a
def Keys : Val → List Key | mk _ _ _ _ a _ _ => a
def Entries : Val → List Ent | mk _ _ _ _ _ a _ => a
def Labels : Val → List ByteArray | mk _ _ _ _ _ _ a => a
end Val
namespace Ent
def Args : Ent → List Val | mk a _ _ => a
def Fails : Ent → Bool | mk _ a _ => a
def Result : Ent → Val | mk _ _ a => a
end Ent

instance rpKey : Rp Key where
  sz := 2
  pos := by decide
  agg := true
  cells := fun _ k cs => cs = [.int .i64 k.Kind, .string k.Text]
  len := fun h => by rw [h]; rfl
  one := fun h v hv => by rw [h] at hv; simp at hv; rcases hv with rfl | rfl <;> rfl
  mono := fun _ h => h

/-- A slice's header over cells that are known. -/
def SlC (σ : S) (len : Nat) (A : Option Addr) (c : Nat) (cs : List Value) : Prop := len ≤ c ∧ c ≤ maxLen ∧ (0 < len → ∃ b o, A = some ⟨b, o, none⟩ ∧ Sealed σ b o cs)
mutual
def RV (σ : S) : Val → List Value → Prop
  | .mk k n t kids keys ents labs, cs => ∃ A1 c1 A2 c2 A3 c3 A4 c4 f1 f3,
      cs = [.int .i64 k, .int .i64 n, .string t, .slice A1 kids.length c1, .slice A2 keys.length c2, .slice A3 ents.length c3, .slice A4 labs.length c4] ∧
      SlC σ kids.length A1 c1 f1 ∧ RVs σ kids f1 ∧ Sl σ keys A2 c2 ∧ SlC σ ents.length A3 c3 f3 ∧ REs σ ents f3 ∧ Sl σ labs A4 c4
def RVs (σ : S) : List Val → List Value → Prop
  | [], cs => cs = []
  | x :: xs, cs => ∃ c r, cs = c ++ r ∧ RV σ x c ∧ RVs σ xs r
def RE (σ : S) : Ent → List Value → Prop
  | .mk args fails res, cs => ∃ A c f r, cs = .slice A args.length c :: .bool fails :: r ∧ SlC σ args.length A c f ∧ RVs σ args f ∧ RV σ res r
def REs (σ : S) : List Ent → List Value → Prop
  | [], cs => cs = []
  | x :: xs, cs => ∃ c r, cs = c ++ r ∧ RE σ x c ∧ REs σ xs r
end

theorem RV.len {σ : S} : ∀ {v : Val} {cs : List Value}, RV σ v cs → cs.length = 7
  | .mk .., cs, h => by simp only [RV] at h; obtain ⟨_, _, _, _, _, _, _, _, _, _, rfl, _⟩ := h; rfl
theorem RV.one {σ : S} : ∀ {v : Val} {cs : List Value}, RV σ v cs → ∀ u ∈ cs, u.oneCell' = true
  | .mk .., cs, h => by
    simp only [RV] at h
    obtain ⟨_, _, _, _, _, _, _, _, _, _, rfl, _⟩ := h
    intro u hu
    simp at hu
    rcases hu with rfl | rfl | rfl | rfl | rfl | rfl | rfl <;> rfl
theorem RE.len {σ : S} : ∀ {v : Ent} {cs : List Value}, RE σ v cs → cs.length = 9
  | .mk .., cs, h => by simp only [RE] at h; obtain ⟨_, _, _, r, rfl, _, _, h4⟩ := h; simp [h4.len]
theorem RE.one {σ : S} : ∀ {v : Ent} {cs : List Value}, RE σ v cs → ∀ u ∈ cs, u.oneCell' = true
  | .mk .., cs, h => by
    simp only [RE] at h
    obtain ⟨_, _, _, r, rfl, _, _, h4⟩ := h
    intro u hu
    simp only [List.mem_cons] at hu
    rcases hu with rfl | rfl | hu
    · rfl
    · rfl
    · exact h4.one u hu
theorem SlC.mono {σ τ : S} {len : Nat} {A : Option Addr} {c : Nat} {cs : List Value} (h : SlC σ len A c cs) (k : Wext σ τ) (hn : 0 < len → cs ≠ []) : SlC τ len A c cs :=
  ⟨h.1, h.2.1, fun hl => by obtain ⟨b, o, e, hs⟩ := h.2.2 hl; exact ⟨b, o, e, hs.mono (hn hl) k⟩⟩
theorem RVs.ne {σ : S} : ∀ {xs : List Val} {cs : List Value}, RVs σ xs cs → 0 < xs.length → cs ≠ []
  | [], _, _, h => by simp at h
  | x :: xs, cs, h, _ => by
    simp only [RVs] at h
    obtain ⟨c, r, rfl, h1, _⟩ := h
    intro e
    have := h1.len
    rw [List.append_eq_nil_iff] at e
    rw [e.1] at this
    simp at this
theorem REs.ne {σ : S} : ∀ {xs : List Ent} {cs : List Value}, REs σ xs cs → 0 < xs.length → cs ≠ []
  | [], _, _, h => by simp at h
  | x :: xs, cs, h, _ => by
    simp only [REs] at h
    obtain ⟨c, r, rfl, h1, _⟩ := h
    intro e
    have := h1.len
    rw [List.append_eq_nil_iff] at e
    rw [e.1] at this
    simp at this
mutual
theorem RV.mono {σ τ : S} (k : Wext σ τ) : ∀ {v : Val} {cs : List Value}, RV σ v cs → RV τ v cs
  | .mk .., cs, h => by
    simp only [RV] at h ⊢
    obtain ⟨A1, c1, A2, c2, A3, c3, A4, c4, f1, f3, e, h1, h2, h3, h4, h5, h6⟩ := h
    exact ⟨A1, c1, A2, c2, A3, c3, A4, c4, f1, f3, e, h1.mono k h2.ne, RVs.mono k h2, h3.mono k, h4.mono k h5.ne, REs.mono k h5, h6.mono k⟩
theorem RVs.mono {σ τ : S} (k : Wext σ τ) : ∀ {v : List Val} {cs : List Value}, RVs σ v cs → RVs τ v cs
  | [], cs, h => by simp only [RVs] at h ⊢; exact h
  | x :: xs, cs, h => by
    simp only [RVs] at h ⊢
    obtain ⟨c, r, e, h1, h2⟩ := h
    exact ⟨c, r, e, RV.mono k h1, RVs.mono k h2⟩
theorem RE.mono {σ τ : S} (k : Wext σ τ) : ∀ {v : Ent} {cs : List Value}, RE σ v cs → RE τ v cs
  | .mk .., cs, h => by
    simp only [RE] at h ⊢
    obtain ⟨A, c, f, r, e, h1, h2, h3⟩ := h
    exact ⟨A, c, f, r, e, h1.mono k h2.ne, RVs.mono k h2, RV.mono k h3⟩
theorem REs.mono {σ τ : S} (k : Wext σ τ) : ∀ {v : List Ent} {cs : List Value}, REs σ v cs → REs τ v cs
  | [], cs, h => by simp only [REs] at h ⊢; exact h
  | x :: xs, cs, h => by
    simp only [REs] at h ⊢
    obtain ⟨c, r, e, h1, h2⟩ := h
    exact ⟨c, r, e, RE.mono k h1, REs.mono k h2⟩
end
instance rpVal : Rp Val where
  sz := 7
  pos := by decide
  agg := true
  cells := fun σ v cs => RV σ v cs
  len := RV.len
  one := RV.one
  mono := fun k h => RV.mono k h
instance rpEnt : Rp Ent where
  sz := 9
  pos := by decide
  agg := true
  cells := fun σ v cs => RE σ v cs
  len := RE.len
  one := RE.one
  mono := fun k h => RE.mono k h
theorem RVs.flat {σ : S} : ∀ {xs : List Val} {cs : List Value}, RVs σ xs cs ↔ Flat σ xs cs
  | [], cs => by simp only [RVs, Flat]
  | x :: xs, cs => by
    simp only [RVs, Flat]
    constructor
    · rintro ⟨c, r, e, h1, h2⟩; exact ⟨c, r, e, h1, RVs.flat.1 h2⟩
    · rintro ⟨c, r, e, h1, h2⟩; exact ⟨c, r, e, h1, RVs.flat.2 h2⟩
theorem REs.flat {σ : S} : ∀ {xs : List Ent} {cs : List Value}, REs σ xs cs ↔ Flat σ xs cs
  | [], cs => by simp only [REs, Flat]
  | x :: xs, cs => by
    simp only [REs, Flat]
    constructor
    · rintro ⟨c, r, e, h1, h2⟩; exact ⟨c, r, e, h1, REs.flat.1 h2⟩
    · rintro ⟨c, r, e, h1, h2⟩; exact ⟨c, r, e, h1, REs.flat.2 h2⟩
theorem SlC.sl {α : Type} [Rp α] {σ : S} {xs : List α} {A : Option Addr} {c : Nat} {cs : List Value} (h : SlC σ xs.length A c cs) (hf : Flat σ xs cs) : Sl σ xs A c :=
  ⟨h.1, h.2.1, cs, hf, fun hn => h.2.2 (List.length_pos_iff.2 hn)⟩
theorem SlC.of {α : Type} [Rp α] {σ : S} {xs : List α} {A : Option Addr} {c : Nat} (h : Sl σ xs A c) : ∃ cs, SlC σ xs.length A c cs ∧ Flat σ xs cs := by
  obtain ⟨h1, h2, cs, h3, h4⟩ := h
  exact ⟨cs, ⟨h1, h2, fun hl => h4 (List.length_pos_iff.1 hl)⟩, h3⟩

/-- A value's cells, laid open; and back. -/
theorem Val.cells_iff {σ : S} {v : Val} {cs : List Value} : Rp.cells σ v cs ↔ ∃ A1 c1 A2 c2 A3 c3 A4 c4,
    cs = [.int .i64 v.Kind, .int .i64 v.Int_, .string v.Text, .slice A1 v.Kids.length c1, .slice A2 v.Keys.length c2, .slice A3 v.Entries.length c3, .slice A4 v.Labels.length c4] ∧
    Sl σ v.Kids A1 c1 ∧ Sl σ v.Keys A2 c2 ∧ Sl σ v.Entries A3 c3 ∧ Sl σ v.Labels A4 c4 := by
  cases v with
  | mk k n t kids keys ents labs =>
    show RV σ _ cs ↔ _
    simp only [RV, Val.Kind, Val.Int_, Val.Text, Val.Kids, Val.Keys, Val.Entries, Val.Labels]
    constructor
    · rintro ⟨A1, c1, A2, c2, A3, c3, A4, c4, f1, f3, e, h1, h2, h3, h4, h5, h6⟩
      exact ⟨A1, c1, A2, c2, A3, c3, A4, c4, e, h1.sl (RVs.flat.1 h2), h3, h4.sl (REs.flat.1 h5), h6⟩
    · rintro ⟨A1, c1, A2, c2, A3, c3, A4, c4, e, h1, h3, h4, h6⟩
      obtain ⟨f1, k1, k2⟩ := SlC.of h1
      obtain ⟨f3, k4, k5⟩ := SlC.of h4
      exact ⟨A1, c1, A2, c2, A3, c3, A4, c4, f1, f3, e, k1, RVs.flat.2 k2, h3, k4, REs.flat.2 k5, h6⟩
theorem Ent.cells_iff {σ : S} {v : Ent} {cs : List Value} : Rp.cells σ v cs ↔ ∃ A c A1 c1 A2 c2 A3 c3 A4 c4,
    cs = [.slice A v.Args.length c, .bool v.Fails, .int .i64 v.Result.Kind, .int .i64 v.Result.Int_, .string v.Result.Text, .slice A1 v.Result.Kids.length c1, .slice A2 v.Result.Keys.length c2, .slice A3 v.Result.Entries.length c3, .slice A4 v.Result.Labels.length c4] ∧
    Sl σ v.Args A c ∧ Sl σ v.Result.Kids A1 c1 ∧ Sl σ v.Result.Keys A2 c2 ∧ Sl σ v.Result.Entries A3 c3 ∧ Sl σ v.Result.Labels A4 c4 := by
  cases v with
  | mk args fails res =>
    show RE σ _ cs ↔ _
    simp only [RE, Ent.Args, Ent.Fails, Ent.Result]
    constructor
    · rintro ⟨A, c, f, r, rfl, h1, h2, h3⟩
      obtain ⟨A1, c1, A2, c2, A3, c3, A4, c4, rfl, k1, k2, k3, k4⟩ := Val.cells_iff.1 h3
      exact ⟨A, c, A1, c1, A2, c2, A3, c3, A4, c4, rfl, h1.sl (RVs.flat.1 h2), k1, k2, k3, k4⟩
    · rintro ⟨A, c, A1, c1, A2, c2, A3, c3, A4, c4, rfl, h1, k1, k2, k3, k4⟩
      obtain ⟨f, j1, j2⟩ := SlC.of h1
      exact ⟨A, c, f, _, rfl, j1, RVs.flat.2 j2, Val.cells_iff.2 ⟨A1, c1, A2, c2, A3, c3, A4, c4, rfl, k1, k2, k3, k4⟩⟩
theorem Key.cells_iff {σ : S} {v : Key} {cs : List Value} : Rp.cells σ v cs ↔ cs = [.int .i64 v.Kind, .string v.Text] := Iff.rfl
end Go.Sx
