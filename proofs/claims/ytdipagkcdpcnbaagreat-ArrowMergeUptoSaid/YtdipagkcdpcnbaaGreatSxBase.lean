/- Frames as functions, worlds with a mark on each block (how far its cells are settled, and a tag), and the rules of the walk over them. No program in sight: everything holds over any program P. -/
import Derived.WalkKit
import Derived.Deep.MidRow
import Derived.Maps.AppendAt
namespace Go.Sx
open Go Go.RowKit

/-! ### frames -/
abbrev Fr := Nat → Value
def upd (F : Fr) (d : Nat) (v : Value) : Fr := fun i => cond (Nat.beq i d) v (F i)
def fr (n : Nat) (F : Fr) : Act := ⟨Array.ofFn (n := n) fun i => F i.val, []⟩
def ev (F : Fr) : Operand → Value
  | .tmp t => F t
  | .const v => v
  | .global g => .pointer (some ⟨g, 0, none⟩)
  | .func f => .func (.func f) #[] #[]
def opOk (n : Nat) : Operand → Bool
  | .tmp t => Nat.blt t n
  | _ => true
def putF (F : Fr) : Option Nat → Value → Fr
  | some d, v => upd F d v
  | none, _ => F

theorem blt_lt {a b : Nat} (h : Nat.blt a b = true) : a < b := Nat.le_of_ble_eq_true h
theorem eval_fr {n : Nat} {F : Fr} {x : Operand} (h : opOk n x = true) : (fr n F).eval x = ev F x := by
  cases x with
  | tmp t => have := blt_lt h; simp [Act.eval, fr, ev, Array.getD, this]
  | _ => rfl
theorem put_fr (n : Nat) (F : Fr) (d : Option Nat) (v : Value) : (fr n F).put d v = fr n (putF F d v) := by
  cases d with
  | none => rfl
  | some d =>
    simp only [Act.put, fr, putF]
    congr 1
    apply Array.ext
    · simp
    · intro i h1 h2
      rw [Array.getElem_ofFn]
      by_cases h : d = i
      · subst h
        rw [Array.getElem_setIfInBounds_self]
        simp [upd]
      · have hb : Nat.beq i d = false := by
          cases hb : Nat.beq i d with
          | false => rfl
          | true => exact absurd (Nat.eq_of_beq_eq_true hb).symm h
        rw [Array.getElem_setIfInBounds_ne (by simpa using h2) h, Array.getElem_ofFn]
        simp [upd, hb]
theorem fr_getD {n : Nat} {F : Fr} {t : Nat} (h : Nat.blt t n = true) : (fr n F).tmps.getD t undef = F t := by
  have := blt_lt h; simp [fr, Array.getD, this]

/-! ### worlds with marks -/
structure S where
  w : World
  L : Nat → Nat × Nat
abbrev S.N (σ : S) : Nat := σ.w.heap.size

structure Wext (σ τ : S) : Prop where
  size : σ.N ≤ τ.N
  len : ∀ b, b < σ.N → (σ.L b).1 ≤ (τ.L b).1
  cell : ∀ b o v, o < (σ.L b).1 → σ.w.cell? ⟨b, o, none⟩ = some v → τ.w.cell? ⟨b, o, none⟩ = some v
  drawn : σ.w.drawn ≤ τ.w.drawn
/-- Blocks below B stand as they were. -/
structure ExtB (B : Nat) (σ τ : S) : Prop where
  below : Below B σ.w τ.w
  mark : ∀ b, b < B → τ.L b = σ.L b
  drawn : σ.w.drawn ≤ τ.w.drawn
abbrev Ext (σ τ : S) : Prop := ExtB σ.N σ τ
/-- Only blocks from B on with this tag have turned, and no settled cell. -/
structure Mod (B id : Nat) (σ τ : S) : Prop where
  wext : Wext σ τ
  os : τ.w.os = σ.w.os
  tape : τ.w.tape = σ.w.tape
  output : τ.w.output = σ.w.output
  block : ∀ b, b < σ.N → (b < B ∨ (σ.L b).2 ≠ id) → τ.w.heap[b]? = σ.w.heap[b]? ∧ τ.L b = σ.L b

theorem cell_lt {w : World} {b o : Nat} {v : Value} (h : w.cell? ⟨b, o, none⟩ = some v) : b < w.heap.size := by
  rcases Nat.lt_or_ge b w.heap.size with hlt | hge
  · exact hlt
  · simp [World.cell?, Array.getElem?_eq_none hge] at h
theorem cell_of_block {w w' : World} {b : Nat} (h : w'.heap[b]? = w.heap[b]?) (o : Nat) : w'.cell? ⟨b, o, none⟩ = w.cell? ⟨b, o, none⟩ := by
  simp only [World.cell?, h]

theorem Wext.refl (σ : S) : Wext σ σ := ⟨Nat.le_refl _, fun _ _ => Nat.le_refl _, fun _ _ _ _ h => h, Nat.le_refl _⟩
theorem Wext.trans {σ τ υ : S} (h : Wext σ τ) (k : Wext τ υ) : Wext σ υ :=
  ⟨Nat.le_trans h.size k.size,
   fun b hb => Nat.le_trans (h.len b hb) (k.len b (Nat.lt_of_lt_of_le hb h.size)),
   fun b o v ho hc => k.cell b o v (Nat.lt_of_lt_of_le ho (h.len b (cell_lt hc))) (h.cell b o v ho hc), Nat.le_trans h.drawn k.drawn⟩
theorem ExtB.refl (B : Nat) (σ : S) : ExtB B σ σ := ⟨Below.refl _ _, fun _ _ => rfl, Nat.le_refl _⟩
theorem ExtB.trans {B : Nat} {σ τ υ : S} (h : ExtB B σ τ) (k : ExtB B τ υ) : ExtB B σ υ := ⟨h.below.trans k.below, fun b hb => (k.mark b hb).trans (h.mark b hb), Nat.le_trans h.drawn k.drawn⟩
theorem ExtB.mono {B C : Nat} {σ τ : S} (h : ExtB B σ τ) (hc : C ≤ B) : ExtB C σ τ := ⟨h.below.mono hc, fun b hb => h.mark b (Nat.lt_of_lt_of_le hb hc), h.drawn⟩
theorem ExtB.size {B : Nat} {σ τ : S} (h : ExtB B σ τ) : σ.N ≤ τ.N := h.below.size
theorem ExtB.wext {σ τ : S} (h : Ext σ τ) : Wext σ τ :=
  ⟨h.below.size, fun b hb => by rw [h.mark b hb]; exact Nat.le_refl _,
   fun b o v _ hc => (cell_of_block (h.below.block b (cell_lt hc)) o).trans hc, h.drawn⟩
/-- The function's own frame of memory, over one more step. -/
theorem ExtB.ext {B : Nat} {σ τ υ : S} (h : ExtB B σ τ) (hB : B ≤ τ.N) (k : Ext τ υ) : ExtB B σ υ := h.trans (k.mono hB)
/-! ### draws are never taken back -/
theorem ask_drawn {α : Type} (k : Ask α) : ∀ (w : World), w.drawn ≤ (w.ask k).2.drawn := by
  induction k with
  | done a => intro w; exact Nat.le_refl _
  | ask what range k ih =>
    intro w
    simp only [World.ask]
    split
    · exact ih 0 w
    · exact Nat.le_trans (Nat.le_succ _) (ih _ { w with drawn := w.drawn + 1 })
theorem sys_drawn (w : World) (c : Sys) : w.drawn ≤ (w.sys c).2.drawn := by
  have h := ask_drawn (Kernel.perform c w.os) w
  unfold World.sys
  split
  · exact Nat.le_refl _
  · rename_i r os w' e
    rw [e] at h; exact h
theorem viewStore_drawn {p : Program} {w : World} {at_ : Addr} {u : TypeId} {k : Addr} {v : Value} {atomic : Bool} {r : World × List Addr} (h : w.viewStore p at_ u k v atomic = .ok r) : r.1.drawn = w.drawn := by
  unfold World.viewStore at h
  simp only [bind, Except.bind, pure, Except.pure, throw, throwThe, MonadExceptOf.throw] at h
  repeat' split at h
  all_goals first | (cases h; rfl) | cases h
theorem farStore_drawn {p : Program} {w : World} {a : Addr} {v : Value} {atomic : Bool} {r : World × List Addr} (h : w.farStore p a v atomic = .ok r) : r.1.drawn = w.drawn := by
  unfold World.farStore at h
  split at h
  · split at h
    · rename_i e; cases h; exact viewStore_drawn e
    · cases h
  · cases h
theorem run_drawn {α : Type} {P : Program} (m : Sem α) : ∀ {w w' : World} {v : α}, m.run P w = .ok v w' → w.drawn ≤ w'.drawn := by
  induction m with
  | pure a => intro w w' v h; simp only [Sem.run] at h; cases h; exact Nat.le_refl _
  | load m a k ih =>
    intro w w' v h
    simp only [Sem.run] at h
    split at h
    · exact ih _ h
    · split at h
      · exact ih _ h
      · cases h
  | store m a x k ih =>
    intro w w' v h
    cases x <;> simp only [Sem.run] at h <;> first
      | (cases h; done)
      | (split at h
         · split at h
           · cases h
           · have := ih h
             exact this
         · split at h
           · rename_i e
             have := farStore_drawn e
             rw [← this]; exact ih h
           · cases h)
  | new o k ih => intro w w' v h; simp only [Sem.run] at h; have := ih _ h; exact this
  | shape r k ih => intro w w' v h; simp only [Sem.run] at h; exact ih _ h
  | freeze a n k ih =>
    intro w w' v h
    simp only [Sem.run] at h
    have := ih h
    have e : (w.freeze a n).drawn = w.drawn := by unfold World.freeze; split <;> rfl
    rw [e] at this; exact this
  | frozen a k ih => intro w w' v h; simp only [Sem.run] at h; exact ih _ h
  | getObj r k ih =>
    intro w w' v h
    simp only [Sem.run] at h
    split at h
    · cases h
    · exact ih _ h
    · cases h
  | setObj r o k ih =>
    intro w w' v h
    simp only [Sem.run] at h
    split at h
    · cases h
    · have := ih h
      exact this
    · cases h
  | choose q k ih =>
    intro w w' v h
    simp only [Sem.run] at h
    split at h
    · exact ih _ h
    · exact Nat.le_trans (Nat.le_succ _) (ih _ h)
  | sys c k ih => intro w w' v h; simp only [Sem.run] at h; exact Nat.le_trans (sys_drawn w c) (ih _ h)
  | program k ih => intro w w' v h; simp only [Sem.run] at h; exact ih _ h
  | mark m k ih => intro w w' v h; simp only [Sem.run] at h; exact ih h
  | halt h0 => intro w w' v h; simp only [Sem.run] at h; cases h
/-! ### settled cells, data -/
def Sealed (σ : S) (b o : Nat) (cs : List Value) : Prop := o + cs.length ≤ (σ.L b).1 ∧ σ.w.rangeAt b o cs
theorem Sealed.mono {σ τ : S} {b o : Nat} {cs : List Value} (h : Sealed σ b o cs) (hn : cs ≠ []) (k : Wext σ τ) : Sealed τ b o cs := by
  have hlt : b < σ.N := by
    cases cs with
    | nil => exact absurd rfl hn
    | cons v r => exact cell_lt (h.2 0 v rfl)
  refine ⟨Nat.le_trans h.1 (k.len b hlt), fun j v hv => k.cell b (o + j) v ?_ (h.2 j v hv)⟩
  have : j < cs.length := (List.getElem?_eq_some_iff.1 hv).1
  have := h.1
  omega
theorem Sealed.app {σ : S} {b o : Nat} {xs ys : List Value} (h : Sealed σ b o (xs ++ ys)) : Sealed σ b o xs ∧ Sealed σ b (o + xs.length) ys := by
  refine ⟨⟨by have := h.1; simp at this; omega, fun j v hv => h.2 j v ?_⟩, ⟨by have := h.1; simp at this; omega, fun j v hv => ?_⟩⟩
  · rw [List.getElem?_append_left (List.getElem?_eq_some_iff.1 hv).1]; exact hv
  · rw [Nat.add_assoc]
    apply h.2
    rw [List.getElem?_append_right (by omega)]
    simpa using hv
theorem Sealed.nil_ (σ : S) (b o : Nat) (h : o ≤ (σ.L b).1) : Sealed σ b o [] := ⟨by simpa using h, fun j v hv => by simp at hv⟩

class Rp (α : Type) where
  sz : Nat
  pos : 0 < sz
  agg : Bool
  cells : S → α → List Value → Prop
  len : ∀ {σ : S} {a : α} {cs : List Value}, cells σ a cs → cs.length = sz
  one : ∀ {σ : S} {a : α} {cs : List Value}, cells σ a cs → ∀ v ∈ cs, v.oneCell' = true
  mono : ∀ {σ τ : S} {a : α} {cs : List Value}, Wext σ τ → cells σ a cs → cells τ a cs

def toVal : Bool → List Value → Value
  | true, cs => .agg cs.toArray
  | false, cs => cs.headD undef
def RpV {α : Type} [Rp α] (σ : S) (a : α) (v : Value) : Prop := ∃ cs, Rp.cells σ a cs ∧ v = toVal (Rp.agg α) cs

/-- The cells of a list's elements, one behind the other. -/
def Flat {α : Type} [Rp α] (σ : S) : List α → List Value → Prop
  | [], cs => cs = []
  | x :: xs, cs => ∃ c r, cs = c ++ r ∧ Rp.cells σ x c ∧ Flat σ xs r

section
variable {α : Type} [Rp α]
theorem Flat.len {σ : S} : ∀ {xs : List α} {cs : List Value}, Flat σ xs cs → cs.length = xs.length * Rp.sz α
  | [], _, h => by cases h; simp
  | x :: xs, cs, h => by
    obtain ⟨c, r, rfl, hc, hr⟩ := h
    rw [List.length_append, Rp.len hc, Flat.len hr, List.length_cons, Nat.add_mul]
    omega
theorem Flat.one {σ : S} : ∀ {xs : List α} {cs : List Value}, Flat σ xs cs → ∀ v ∈ cs, v.oneCell' = true
  | [], _, h => by cases h; simp
  | x :: xs, cs, h => by
    obtain ⟨c, r, rfl, hc, hr⟩ := h
    intro v hv
    rcases List.mem_append.1 hv with h | h
    · exact Rp.one hc v h
    · exact Flat.one hr v h
theorem Flat.mono {σ τ : S} (k : Wext σ τ) : ∀ {xs : List α} {cs : List Value}, Flat σ xs cs → Flat τ xs cs
  | [], _, h => h
  | x :: xs, cs, h => by
    obtain ⟨c, r, rfl, hc, hr⟩ := h
    exact ⟨c, r, rfl, Rp.mono k hc, Flat.mono k hr⟩
theorem Flat.app {σ : S} : ∀ {xs ys : List α} {cs ds : List Value}, Flat σ xs cs → Flat σ ys ds → Flat σ (xs ++ ys) (cs ++ ds)
  | [], _, _, _, h, k => by cases h; exact k
  | x :: xs, ys, cs, ds, h, k => by
    obtain ⟨c, r, rfl, hc, hr⟩ := h
    exact ⟨c, r ++ ds, by simp, hc, Flat.app hr k⟩
theorem Flat.split {σ : S} : ∀ {xs ys : List α} {cs : List Value}, Flat σ (xs ++ ys) cs → ∃ c d, cs = c ++ d ∧ Flat σ xs c ∧ Flat σ ys d
  | [], _, cs, h => ⟨[], cs, rfl, rfl, h⟩
  | x :: xs, ys, cs, h => by
    obtain ⟨c, r, rfl, hc, hr⟩ := h
    obtain ⟨c1, d, rfl, h1, h2⟩ := Flat.split hr
    exact ⟨c ++ c1, d, by simp, ⟨c, c1, rfl, hc, h1⟩, h2⟩
theorem Flat.single {σ : S} {x : α} {cs : List Value} (h : Rp.cells σ x cs) : Flat σ [x] cs := ⟨cs, [], by simp, h, rfl⟩
end

/-- The slice value '.slice A xs.length c' reads as the list xs. -/
def Sl {α : Type} [Rp α] (σ : S) (xs : List α) (A : Option Addr) (c : Nat) : Prop :=
  xs.length ≤ c ∧ c ≤ maxLen ∧ ∃ cs, Flat σ xs cs ∧ (xs ≠ [] → ∃ b o, A = some ⟨b, o, none⟩ ∧ Sealed σ b o cs)

section
variable {α : Type} [Rp α]
theorem Flat.ne_nil {σ : S} {xs : List α} {cs : List Value} (h : Flat σ xs cs) (hn : xs ≠ []) : cs ≠ [] := by
  intro e
  have := Flat.len h
  rw [e] at this
  have hp := Rp.pos (α := α)
  cases xs with
  | nil => exact hn rfl
  | cons x r =>
    simp only [List.length_nil, List.length_cons, Nat.add_mul] at this
    omega
theorem Sl.mono {σ τ : S} {xs : List α} {A : Option Addr} {c : Nat} (h : Sl σ xs A c) (k : Wext σ τ) : Sl τ xs A c := by
  obtain ⟨h1, h2, cs, h3, h4⟩ := h
  refine ⟨h1, h2, cs, h3.mono k, fun hn => ?_⟩
  obtain ⟨b, o, e, hs⟩ := h4 hn
  exact ⟨b, o, e, hs.mono (h3.ne_nil hn) k⟩
theorem Sl.nil_ (σ : S) (A : Option Addr) (c : Nat) (hc : c ≤ maxLen) : Sl σ ([] : List α) A c := ⟨Nat.zero_le _, hc, [], rfl, fun h => absurd rfl h⟩
/-- An element: where it lies. -/
theorem Sl.at_ {σ : S} {xs : List α} {A : Option Addr} {c : Nat} (h : Sl σ xs A c) {i : Nat} {x : α} (hx : xs[i]? = some x) :
    ∃ b o cs, A = some ⟨b, o, none⟩ ∧ Rp.cells σ x cs ∧ Sealed σ b (o + i * Rp.sz α) cs := by
  obtain ⟨h1, h2, cs, h3, h4⟩ := h
  have hi : i < xs.length := (List.getElem?_eq_some_iff.1 hx).1
  obtain ⟨b, o, e, hs⟩ := h4 (by intro e; simp [e] at hi)
  have hsplit : xs = xs.take i ++ (x :: xs.drop (i + 1)) := by
    have := List.take_append_drop i xs
    rw [List.drop_eq_getElem_cons hi] at this
    rw [← (List.getElem?_eq_some_iff.1 hx).2]
    exact this.symm
  rw [hsplit] at h3
  obtain ⟨c1, d, rfl, f1, f2⟩ := h3.split
  obtain ⟨cx, r, rfl, hc, _⟩ := f2
  have hl : c1.length = i * Rp.sz α := by rw [f1.len, List.length_take]; congr 1; omega
  have := (hs.app.2).app.1
  rw [hl] at this
  exact ⟨b, o, cx, e, hc, this⟩
end

/-! ### data of the plain kinds -/
instance rpInt : Rp Int where
  sz := 1
  pos := by decide
  agg := false
  cells := fun _ n cs => cs = [.int .i64 n]
  len := fun h => by rw [h]; rfl
  one := fun h v hv => by rw [h] at hv; simp at hv; subst hv; rfl
  mono := fun _ h => h
instance rpBool : Rp Bool where
  sz := 1
  pos := by decide
  agg := false
  cells := fun _ n cs => cs = [.bool n]
  len := fun h => by rw [h]; rfl
  one := fun h v hv => by rw [h] at hv; simp at hv; subst hv; rfl
  mono := fun _ h => h
instance rpStr : Rp ByteArray where
  sz := 1
  pos := by decide
  agg := false
  cells := fun _ n cs => cs = [.string n]
  len := fun h => by rw [h]; rfl
  one := fun h v hv => by rw [h] at hv; simp at hv; subst hv; rfl
  mono := fun _ h => h
instance rpU8 : Rp UInt8 where
  sz := 1
  pos := by decide
  agg := false
  cells := fun _ n cs => cs = [.int .u8 (n.toNat : Int)]
  len := fun h => by rw [h]; rfl
  one := fun h v hv => by rw [h] at hv; simp at hv; subst hv; rfl
  mono := fun _ h => h
instance rpList {α : Type} [Rp α] : Rp (List α) where
  sz := 1
  pos := by decide
  agg := false
  cells := fun σ xs cs => ∃ A c, cs = [.slice A xs.length c] ∧ Sl σ xs A c
  len := fun ⟨_, _, h, _⟩ => by rw [h]; rfl
  one := fun ⟨_, _, h, _⟩ v hv => by rw [h] at hv; simp at hv; subst hv; rfl
  mono := fun k ⟨A, c, h, hs⟩ => ⟨A, c, h, hs.mono k⟩

theorem RpV.mono {α : Type} [Rp α] {σ τ : S} {a : α} {v : Value} (h : RpV σ a v) (k : Wext σ τ) : RpV τ a v := by
  obtain ⟨cs, hc, e⟩ := h
  exact ⟨cs, Rp.mono k hc, e⟩
theorem RpV.int {σ : S} {n : Int} {v : Value} (h : RpV σ n v) : v = .int .i64 n := by obtain ⟨cs, rfl, e⟩ := h; exact e
theorem RpV.bool {σ : S} {n : Bool} {v : Value} (h : RpV σ n v) : v = .bool n := by obtain ⟨cs, rfl, e⟩ := h; exact e
theorem RpV.str {σ : S} {n : ByteArray} {v : Value} (h : RpV σ n v) : v = .string n := by obtain ⟨cs, rfl, e⟩ := h; exact e
theorem RpV.u8 {σ : S} {n : UInt8} {v : Value} (h : RpV σ n v) : v = .int .u8 (n.toNat : Int) := by obtain ⟨cs, rfl, e⟩ := h; exact e
theorem RpV.list {α : Type} [Rp α] {σ : S} {xs : List α} {v : Value} (h : RpV σ xs v) : ∃ A c, v = .slice A xs.length c ∧ Sl σ xs A c := by
  obtain ⟨cs, ⟨A, c, rfl, hs⟩, e⟩ := h; exact ⟨A, c, e, hs⟩
/-! ### a variable in memory, a row of one's own -/
def Blk (B id : Nat) (σ : S) (b : Nat) (T : TypeId) (cs : List Value) : Prop :=
  B ≤ b ∧ σ.w.heap[b]? = some (.cells cs.toArray T (0, 0)) ∧ σ.L b = (0, id)
theorem Blk.lt {B id : Nat} {σ : S} {b : Nat} {T : TypeId} {cs : List Value} (h : Blk B id σ b T cs) : b < σ.N := by
  rcases Nat.lt_or_ge b σ.N with hlt | hge
  · exact hlt
  · have := h.2.1; rw [Array.getElem?_eq_none hge] at this; cases this
theorem Blk.ext {B id : Nat} {σ τ : S} {b : Nat} {T : TypeId} {cs : List Value} (h : Blk B id σ b T cs) (k : Ext σ τ) : Blk B id τ b T cs :=
  ⟨h.1, (k.below.block b h.lt).trans h.2.1, (k.mark b h.lt).trans h.2.2⟩
theorem Blk.cell {B id : Nat} {σ : S} {b : Nat} {T : TypeId} {cs : List Value} (h : Blk B id σ b T cs) (i : Nat) : σ.w.cell? ⟨b, i, none⟩ = cs[i]? := by
  simp [World.cell?, h.2.1]

/-- '.slice A xs.length c' may be appended to: it is full, so that append copies it; or it is the newest view of a row that nobody else appends to. -/
def Own {α : Type} [Rp α] (B id : Nat) (T : TypeId) (σ : S) (xs : List α) (A : Option Addr) (c : Nat) : Prop :=
  (c = xs.length ∧ Sl σ xs A c) ∨
  ∃ g cur cs, A = some ⟨g, 0, none⟩ ∧ B ≤ g ∧ σ.w.heap[g]? = some (.cells cur T (0, 0)) ∧ xs.length ≤ c ∧ c ≤ maxLen ∧ cur.size = c * Rp.sz α ∧
    Flat σ xs cs ∧ cur.toList.take (xs.length * Rp.sz α) = cs ∧ σ.L g = (xs.length * Rp.sz α, id)

section
variable {α : Type} [Rp α] {B id : Nat} {T : TypeId} {σ τ : S} {xs : List α} {A : Option Addr} {c : Nat}
theorem heap_lt {w : World} {g : Nat} {o : Obj} (h : w.heap[g]? = some o) : g < w.heap.size := by
  rcases Nat.lt_or_ge g w.heap.size with hlt | hge
  · exact hlt
  · rw [Array.getElem?_eq_none hge] at h; cases h
theorem Own.sl (h : Own B id T σ xs A c) : Sl σ xs A c := by
  rcases h with ⟨_, h⟩ | ⟨g, cur, cs, rfl, hg, hh, h1, h2, h3, h4, h5, h6⟩
  · exact h
  · refine ⟨h1, h2, cs, h4, fun _ => ⟨g, 0, rfl, ?_, ?_⟩⟩
    · rw [h6, h4.len]; simp
    · intro j v hv
      have hc : σ.w.cell? ⟨g, 0 + j, none⟩ = cur[j]? := by simp [World.cell?, hh]
      rw [hc, ← Array.getElem?_toList]
      rw [← h5] at hv
      have hj := (List.getElem?_eq_some_iff.1 hv).1
      rw [List.getElem?_take_of_lt (by rw [List.length_take] at hj; omega)] at hv
      exact hv
theorem Own.ext (h : Own B id T σ xs A c) (k : Ext σ τ) : Own B id T τ xs A c := by
  rcases h with ⟨e, h⟩ | ⟨g, cur, cs, rfl, hg, hh, h1, h2, h3, h4, h5, h6⟩
  · exact .inl ⟨e, h.mono k.wext⟩
  · exact .inr ⟨g, cur, cs, rfl, hg, (k.below.block g (heap_lt hh)).trans hh, h1, h2, h3, h4.mono k.wext, h5, (k.mark g (heap_lt hh)).trans h6⟩
theorem Own.base {C : Nat} (h : Own B id T σ xs A c) (hC : C ≤ B) : Own C id T σ xs A c := by
  rcases h with h | ⟨g, cur, cs, rfl, hg, hh, h1⟩
  · exact .inl h
  · exact .inr ⟨g, cur, cs, rfl, Nat.le_trans hC hg, hh, h1⟩
theorem Own.nil_ (A : Option Addr) : Own B id T σ ([] : List α) A 0 := .inl ⟨rfl, Sl.nil_ _ _ _ (Nat.zero_le _)⟩
end
end Go.Sx
