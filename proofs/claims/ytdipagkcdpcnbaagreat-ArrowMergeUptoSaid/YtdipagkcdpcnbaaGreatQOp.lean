/- The symbolic executor: what one operation does. -/
import Derived.Test.YtdipagkcdpcnbaaGreatQGet
namespace Go.Qx
open Go Go.RowKit Go.Sx

section
variable {I : TypeId → Type} [∀ E, Rp (I E)]
/-- What an operation makes: its value, objects that are turned, new objects. -/
structure Ef (I : TypeId → Type) where
  p : PV I
  upd : List (Nat × Option (Ob I))
  new : List (Ob I)
def apU (O : Obs I) : List (Nat × Option (Ob I)) → Obs I
  | [] => O
  | x :: r => apU (upF O x.1 x.2) r
def apE (s : St I) (nb : Nat) (e : Ef I) : St I := ⟨s.n, s.F, addO (apU s.O e.upd) nb e.new, s.nx⟩
/-- How calls are answered. -/
abbrev Disp (I : TypeId → Type) := (ρ : Type) → FuncId → Obs I → Nat → List (PV I) → (Ef I → Option ρ) → Option ρ
def CallOk (P : Program) (f : FuncId) (O : Obs I) (nb : Nat) (ps : List (PV I)) (e : Ef I) : Prop :=
  ∀ (X : Cxt) (c : Cx) (σ : S) (s : St I) (n : Nat) (F : Fr) (vs : List Value), X.P = P → (∀ l o, O l = some (some o) → s.O l = some (some o)) → Rel X c σ s n F → RVs X c σ ps vs → freeN (apU s.O e.upd) nb e.new = true →
    CallS P f vs σ (Stp X.M σ) fun v τ => ∃ c', Cx.le c c' ∧ Rel X c' τ (apE s nb e) n F ∧ RV X c' τ e.p v
structure DispOk (P : Program) (disp : Disp I) : Prop where
  par : ∀ (ρ : Type) (f : FuncId) (O : Obs I) (nb : Nat) (ps : List (PV I)) (k : Ef I → Option ρ), disp ρ f O nb ps k = (disp (Ef I) f O nb ps some).bind k
  ok : ∀ (f : FuncId) (O : Obs I) (nb : Nat) (ps : List (PV I)) (e : Ef I), disp (Ef I) f O nb ps some = some e → CallOk P f O nb ps e

/-- The pieces of a struct. -/
def aggG : PV I → Option (List (PV I))
  | .agg ls => some ls
  | .dat E x => some [.dat E x]
  | _ => none
theorem aggG_ok {X : Cxt} {c : Cx} {σ : S} {p : PV I} {ls : List (PV I)} {v : Value} (h : aggG p = some ls) (hv : RV X c σ p v) : ∃ cs, v = .agg cs.toArray ∧ RG X c σ ls cs := by
  unfold aggG at h
  split at h
  · cases h; simpa only [RV] using hv
  · cases h
    simp only [RV] at hv
    obtain ⟨cs, e, hc⟩ := hv
    exact ⟨cs, e, RG.one hc⟩
  · cases h
def wr (k : IntKind) (n : Int) : Int := k.wrap n
def qdivK (k : IntKind) (a b : Int) : Option Int := if b = 0 then none else some (k.wrap (a.tdiv b))
def qshl (k : IntKind) (a b : Int) : Option Int := if b < 0 then none else some (k.wrap (a * 2 ^ (min b.toNat k.bits)))
def qshr (k : IntKind) (a b : Int) : Option Int := if b < 0 then none else some (a.fdiv (2 ^ (min b.toNat k.bits)))
def bAnd (k : IntKind) (a b : Int) : Int := k.wrap ((BitVec.ofInt k.bits a &&& BitVec.ofInt k.bits b).toNat : Int)
def bOr (k : IntKind) (a b : Int) : Int := k.wrap ((BitVec.ofInt k.bits a ||| BitVec.ofInt k.bits b).toNat : Int)
def bXor (k : IntKind) (a b : Int) : Int := k.wrap ((BitVec.ofInt k.bits a ^^^ BitVec.ofInt k.bits b).toNat : Int)
section
variable {P : Program} {w : World} {x y : Operand} {T : TypeId} {k k' : IntKind} {a b c : Int}
theorem b_quoK (h : qdivK k a b = some c) : Runs P w (do eqGuard .quo T x y (.int k a) (.int k b); binOp .quo T (.int k a) (.int k b)) (.int k c) := by
  unfold qdivK at h
  split at h
  · cases h
  · rename_i hb
    simp only [Option.some.injEq] at h
    subst h
    simp [Runs, eqGuard_quo, binOp_quo, Op.intDiv, hb]
theorem b_remK (h : qrem a b = some c) : Runs P w (do eqGuard .rem T x y (.int k a) (.int k b); binOp .rem T (.int k a) (.int k b)) (.int k c) := by
  unfold qrem at h
  split at h
  · cases h
  · rename_i hb
    simp only [Option.some.injEq] at h
    subst h
    simp [Runs, eqGuard_rem, binOp_rem, Op.intDiv, hb]
theorem b_shl (h : qshl k a b = some c) : Runs P w (do eqGuard .shl T x y (.int k a) (.int k' b); binOp .shl T (.int k a) (.int k' b)) (.int k c) := by
  unfold qshl at h
  split at h
  · cases h
  · rename_i hb
    simp only [Option.some.injEq] at h
    subst h
    simp [Runs, eqGuard_shl, binOp_shl, Op.shift, hb]
theorem b_shr (h : qshr k a b = some c) : Runs P w (do eqGuard .shr T x y (.int k a) (.int k' b); binOp .shr T (.int k a) (.int k' b)) (.int k c) := by
  unfold qshr at h
  split at h
  · cases h
  · rename_i hb
    simp only [Option.some.injEq] at h
    subst h
    simp [Runs, eqGuard_shr, binOp_shr, Op.shift, hb]
theorem b_and : Runs P w (do eqGuard .and T x y (.int k a) (.int k b); binOp .and T (.int k a) (.int k b)) (.int k (bAnd k a b)) := by simp [Runs, eqGuard_and, binOp_and, Op.intBits, bAnd]
theorem b_or : Runs P w (do eqGuard .or T x y (.int k a) (.int k b); binOp .or T (.int k a) (.int k b)) (.int k (bOr k a b)) := by simp [Runs, eqGuard_or, binOp_or, Op.intBits, bOr]
theorem b_xor : Runs P w (do eqGuard .xor T x y (.int k a) (.int k b); binOp .xor T (.int k a) (.int k b)) (.int k (bXor k a b)) := by simp [Runs, eqGuard_xor, binOp_xor, Op.intBits, bXor]
end
def binP (tb : Tab I) (T : TypeId) : BinOp → PV I → PV I → Option (PV I)
  | .add, .int k a, .int k' b => if k = k' then some (.int k (wr k (a + b))) else none
  | .sub, .int k a, .int k' b => if k = k' then some (.int k (wr k (a - b))) else none
  | .mul, .int k a, .int k' b => if k = k' then some (.int k (wr k (a * b))) else none
  | .quo, .int k a, .int k' b => if k = k' then Option.bind (qdivK k a b) fun x => some (.int k x) else none
  | .rem, .int k a, .int k' b => if k = k' then Option.bind (qrem a b) fun x => some (.int k x) else none
  | .shl, .int k a, .int _ b => Option.bind (qshl k a b) fun x => some (.int k x)
  | .shr, .int k a, .int _ b => Option.bind (qshr k a b) fun x => some (.int k x)
  | .and, .int k a, .int k' b => if k = k' then some (.int k (bAnd k a b)) else none
  | .or, .int k a, .int k' b => if k = k' then some (.int k (bOr k a b)) else none
  | .xor, .int k a, .int k' b => if k = k' then some (.int k (bXor k a b)) else none
  | .lss, .int k a, .int k' b => if k = k' then some (.bool (decide (a < b))) else none
  | .leq, .int k a, .int k' b => if k = k' then some (.bool (decide (a ≤ b))) else none
  | .gtr, .int k a, .int k' b => if k = k' then some (.bool (decide (b < a))) else none
  | .geq, .int k a, .int k' b => if k = k' then some (.bool (decide (b ≤ a))) else none
  | .eql, .int k a, .int k' b => if k = k' then some (.bool (a == b)) else none
  | .neq, .int k a, .int k' b => if k = k' then some (.bool (a != b)) else none
  | .eql, .str a, .str b => some (.bool (strEq a b))
  | .neq, .str a, .str b => some (.bool (!strEq a b))
  | .lss, .str a, .str b => some (.bool (strLt a b))
  | .gtr, .str a, .str b => some (.bool (!(strLt a b || strEq a b)))
  | .geq, .str a, .str b => some (.bool (!strLt a b))
  | .leq, .str a, .str b => some (.bool (strLt a b || strEq a b))
  | .eql, .bool a, .bool b => bif tb.isBool T then some (.bool (a == b)) else none
  | .neq, .bool a, .bool b => bif tb.isBool T then some (.bool (a != b)) else none
  | .eql, p, q => Option.bind (aggG p) fun a => Option.bind (aggG q) fun b => Option.bind (tb.eqF T a b) fun r => some (.bool r)
  | .neq, p, q => Option.bind (aggG p) fun a => Option.bind (aggG q) fun b => Option.bind (tb.eqF T a b) fun r => some (.bool (!r))
  | _, _, _ => none
def binK {ρ : Type} (tb : Tab I) (T : TypeId) (b : BinOp) (p q : PV I) (k : PV I → Option ρ) : Option ρ := match b, p, q with
  | .quo, .int i a, .int j c => if i = j then Option.bind (qdivK i a c) fun x => k (.int i x) else none
  | .rem, .int i a, .int j c => if i = j then Option.bind (qrem a c) fun x => k (.int i x) else none
  | .shl, .int i a, .int _ c => Option.bind (qshl i a c) fun x => k (.int i x)
  | .shr, .int i a, .int _ c => Option.bind (qshr i a c) fun x => k (.int i x)
  | b, p, q => Option.bind (binP tb T b p q) k
omit [∀ E, Rp (I E)] in
theorem binK_eq {ρ : Type} {tb : Tab I} {T : TypeId} {b : BinOp} {p q : PV I} {k : PV I → Option ρ} : binK tb T b p q k = Option.bind (binP tb T b p q) k := by
  unfold binK
  split
  · rename_i i a j c
    by_cases e : i = j
    · simp only [binP, if_pos e, Option.bind_assoc, Option.bind_some]
    · simp only [binP, if_neg e, Option.bind_none]
  · rename_i i a j c
    by_cases e : i = j
    · simp only [binP, if_pos e, Option.bind_assoc, Option.bind_some]
    · simp only [binP, if_neg e, Option.bind_none]
  · simp only [binP, Option.bind_assoc, Option.bind_some]
  · simp only [binP, Option.bind_assoc, Option.bind_some]
  · rfl
variable {P : Program} {tb : Tab I} {X : Cxt} {c : Cx} {σ : S}
theorem binP_ok (ht : TabOk P tb) {T : TypeId} {b : BinOp} {p q z : PV I} {u v : Value} {x y : Operand} {w : World} (h : binP tb T b p q = some z) (hp : RV X c σ p u) (hq : RV X c σ q v) :
    ∃ r, RV X c σ z r ∧ Runs P w (do eqGuard b T x y u v; binOp b T u v) r := by
  unfold binP at h
  split at h <;> (try simp only [RV] at hp) <;> (try simp only [RV] at hq) <;> (try subst hp) <;> (try subst hq)
  · obtain ⟨e, h'⟩ := if_some' h; subst e; cases h'; exact ⟨_, by simp only [RV, wr], b_add⟩
  · obtain ⟨e, h'⟩ := if_some' h; subst e; cases h'; exact ⟨_, by simp only [RV, wr], b_sub⟩
  · obtain ⟨e, h'⟩ := if_some' h; subst e; cases h'; exact ⟨_, by simp only [RV, wr], b_mul⟩
  · obtain ⟨e, h'⟩ := if_some' h; subst e; obtain ⟨m, hm, h'⟩ := bind_some h'; cases h'; exact ⟨_, by simp only [RV], b_quoK hm⟩
  · obtain ⟨e, h'⟩ := if_some' h; subst e; obtain ⟨m, hm, h'⟩ := bind_some h'; cases h'; exact ⟨_, by simp only [RV], b_remK hm⟩
  · obtain ⟨m, hm, h⟩ := bind_some h; cases h; exact ⟨_, by simp only [RV], b_shl hm⟩
  · obtain ⟨m, hm, h⟩ := bind_some h; cases h; exact ⟨_, by simp only [RV], b_shr hm⟩
  · obtain ⟨e, h'⟩ := if_some' h; subst e; cases h'; exact ⟨_, by simp only [RV], b_and⟩
  · obtain ⟨e, h'⟩ := if_some' h; subst e; cases h'; exact ⟨_, by simp only [RV], b_or⟩
  · obtain ⟨e, h'⟩ := if_some' h; subst e; cases h'; exact ⟨_, by simp only [RV], b_xor⟩
  · obtain ⟨e, h'⟩ := if_some' h; subst e; cases h'; exact ⟨_, by simp only [RV], b_lss⟩
  · obtain ⟨e, h'⟩ := if_some' h; subst e; cases h'; exact ⟨_, by simp only [RV], b_leq⟩
  · obtain ⟨e, h'⟩ := if_some' h; subst e; cases h'; exact ⟨_, by simp only [RV], b_gtr⟩
  · obtain ⟨e, h'⟩ := if_some' h; subst e; cases h'; exact ⟨_, by simp only [RV], b_geq⟩
  · obtain ⟨e, h'⟩ := if_some' h; subst e; cases h'; exact ⟨_, by simp only [RV], b_eql⟩
  · obtain ⟨e, h'⟩ := if_some' h; subst e; cases h'; exact ⟨_, by simp only [RV], b_neq⟩
  · cases h; exact ⟨_, by simp only [RV], b_seql⟩
  · cases h; exact ⟨_, by simp only [RV], b_sneq⟩
  · cases h; exact ⟨_, by simp only [RV], b_slss⟩
  · cases h; exact ⟨_, by simp only [RV], b_sgtr⟩
  · cases h; exact ⟨_, by simp only [RV], b_sgeq⟩
  · cases h; exact ⟨_, by simp only [RV], b_sleq⟩
  · obtain ⟨hb, h⟩ := bif_some h; cases h; exact ⟨_, by simp only [RV], b_beql (ht.isBool _ hb)⟩
  · obtain ⟨hb, h⟩ := bif_some h; cases h; exact ⟨_, by simp only [RV], b_bneq (ht.isBool _ hb)⟩
  · obtain ⟨a, ha, h⟩ := bind_some h
    obtain ⟨b, hb, h⟩ := bind_some h
    obtain ⟨r, hr, h⟩ := bind_some h
    cases h
    obtain ⟨cs, e1, h1⟩ := aggG_ok ha hp
    obtain ⟨ds, e2, h2⟩ := aggG_ok hb hq
    subst e1; subst e2
    obtain ⟨hm, j, hj, he⟩ := ht.eqF X c σ _ _ _ _ cs ds hr h1 h2
    exact ⟨_, by simp only [RV], b_aggeql hm he hj⟩
  · obtain ⟨a, ha, h⟩ := bind_some h
    obtain ⟨b, hb, h⟩ := bind_some h
    obtain ⟨r, hr, h⟩ := bind_some h
    cases h
    obtain ⟨cs, e1, h1⟩ := aggG_ok ha hp
    obtain ⟨ds, e2, h2⟩ := aggG_ok hb hq
    subst e1; subst e2
    obtain ⟨hm, j, hj, he⟩ := ht.eqF X c σ _ _ _ _ cs ds hr h1 h2
    exact ⟨_, by simp only [RV], b_aggneq hm he hj⟩
  · cases h
/-- Pieces before a place and behind it. -/
def splitG (tb : Tab I) : Nat → Nat → List (PV I) → Option (List (PV I) × List (PV I))
  | 0, _, _ => none
  | f + 1, o, ls => bif Nat.beq o 0 then some ([], ls) else match ls with
    | [] => none
    | p :: ps => bif Nat.ble (sgz p) o then Option.bind (splitG tb f (o - sgz p) ps) fun q => some (p :: q.1, q.2) else match p with
      | .dat E x => splitG tb f o (tb.lf E x ++ ps)
      | _ => none
theorem splitG_ok (ht : TabOk P tb) : ∀ {f o : Nat} {ls a b : List (PV I)} {cs : List Value}, splitG tb f o ls = some (a, b) → RG X c σ ls cs → ∃ c1 c2, cs = c1 ++ c2 ∧ c1.length = o ∧ RG X c σ a c1 ∧ RG X c σ b c2
  | 0, _, _, _, _, _, h, _ => by cases h
  | f + 1, o, ls, a, b, cs, h, hl => by
    simp only [splitG] at h
    cases ho : Nat.beq o 0 with
    | true =>
      rw [ho] at h
      cases h
      exact ⟨[], cs, rfl, (Nat.eq_of_beq_eq_true ho).symm, by simp only [RG], hl⟩
    | false =>
      rw [ho] at h
      simp only [cond_false] at h
      split at h
      · cases h
      · rename_i p ps
        simp only [RG] at hl
        obtain ⟨a1, r, rfl, h1, h2⟩ := hl
        cases hz : Nat.ble (sgz p) o with
        | true =>
          rw [hz] at h
          simp only [cond_true] at h
          obtain ⟨q, hq, h⟩ := bind_some h
          cases h
          obtain ⟨c1, c2, rfl, k1, k2, k3⟩ := splitG_ok ht (a := q.1) (b := q.2) hq h2
          have := Nat.le_of_ble_eq_true hz
          refine ⟨a1 ++ c1, c2, by simp, by rw [List.length_append, piece_len h1, k1]; omega, ?_, k3⟩
          simp only [RG]
          exact ⟨a1, c1, rfl, h1, k2⟩
        | false =>
          rw [hz] at h
          simp only [cond_false] at h
          split at h
          · rename_i E x
            rcases h1 with h1 | ⟨h0, _⟩
            · exact splitG_ok ht h (RG.app _ _ _ _ (ht.lf X c σ E x a1 h1) h2)
            · cases h0
          · cases h
/-- The first piece of one cell. -/
def headG (tb : Tab I) : Nat → List (PV I) → Option (PV I)
  | 0, _ => none
  | f + 1, ls => match ls with
    | [] => none
    | p :: ps => match p with
      | .dat E x => headG tb f (tb.lf E x ++ ps)
      | p => some p
theorem headG_ok (ht : TabOk P tb) : ∀ {f : Nat} {ls : List (PV I)} {p : PV I} {cs : List Value}, headG tb f ls = some p → RG X c σ ls cs → ∃ v, cs[0]? = some v ∧ RV X c σ p v
  | 0, _, _, _, h, _ => by cases h
  | f + 1, [], _, _, h, _ => by cases h
  | f + 1, q :: ps, p, cs, h, hl => by
    simp only [RG] at hl
    obtain ⟨a, r, rfl, h1, h2⟩ := hl
    simp only [headG] at h
    split at h
    · rename_i E x
      rcases h1 with h1 | ⟨h0, _⟩
      · exact headG_ok ht h (RG.app _ _ _ _ (ht.lf X c σ E x a h1) h2)
      · cases h0
    · rename_i hne
      cases h
      rcases h1 with h1 | ⟨h0, v, rfl, h1⟩
      · exact (by cases q <;> first | exact h1.elim | exact absurd rfl (hne _ _))
      · exact ⟨v, rfl, h1⟩
/-- Whole data at a place within data. -/
def loadL (tb : Tab I) (T : TypeId) (ls : List (PV I)) (o : Nat) : Option (PV I) :=
  Option.bind (splitG tb 300 o ls) fun q => match tb.sz T with
  | some k => Option.bind (splitG tb 300 k q.2) fun r => some (mkAgg T r.1)
  | none => bif tb.one T then headG tb 300 q.2 else none
theorem loadL_cells (ht : TabOk P tb) {T : TypeId} {ls : List (PV I)} {o : Nat} {z : PV I} {cs : List Value} (h : loadL tb T ls o = some z) (hl : RG X c σ ls cs) :
    (∃ k, TyRow P T k ∧ o + k ≤ cs.length ∧ RV X c σ z (.agg ((cs.drop o).take k).toArray)) ∨ (TyOne P T ∧ ∃ v, cs[o]? = some v ∧ RV X c σ z v) := by
  obtain ⟨q, hq, h⟩ := bind_some h
  obtain ⟨c1, c2, rfl, k1, k2, k3⟩ := splitG_ok ht (a := q.1) (b := q.2) hq hl
  split at h
  · rename_i k hk
    obtain ⟨r, hr, h⟩ := bind_some h
    cases h
    obtain ⟨d1, d2, rfl, m1, m2, m3⟩ := splitG_ok ht (a := r.1) (b := r.2) hr k3
    left
    refine ⟨k, ht.sz T k hk, by simp only [List.length_append]; omega, ?_⟩
    have : ((c1 ++ (d1 ++ d2)).drop o).take k = d1 := by
      rw [← k1, List.drop_left, ← m1, List.take_left]
    rw [this]
    exact mkAgg_ok m2
  · obtain ⟨hb, h⟩ := bif_some h
    obtain ⟨v, hv, hz⟩ := headG_ok ht h k3
    right
    refine ⟨ht.one T hb, v, ?_, hz⟩
    rw [← k1, List.getElem?_append_right (Nat.le_refl _), Nat.sub_self, hv]
theorem loadL_ok (ht : TabOk P tb) {T : TypeId} {ls : List (PV I)} {o : Nat} {z : PV I} {cs : List Value} {w : World} {b p : Nat} (h : loadL tb T ls o = some z) (hl : RG X c σ ls cs) (hr : w.rangeAt b p cs) :
    ∃ r, RV X c σ z r ∧ Runs P w (loadVar T ⟨b, p + o, none⟩) r := by
  rcases loadL_cells ht h hl with ⟨k, h1, h2, h3⟩ | ⟨h1, v, h2, h3⟩
  · have hl2 : ((cs.drop o).take k).length = k := by rw [List.length_take, List.length_drop]; omega
    refine ⟨_, h3, loads_row (by rw [hl2]; exact h1) ?_⟩
    intro j v hv
    have hj : j < k := by have := (List.getElem?_eq_some_iff.1 hv).1; omega
    rw [List.getElem?_take_of_lt hj, List.getElem?_drop] at hv
    rw [Nat.add_assoc]
    exact hr (o + j) v hv
  · exact ⟨v, h3, loads_one h1 (hr o v h2)⟩
theorem part_row {P : Program} {t : TypeId} {cells : List Value} {o k : Nat} (ht : TyRow P t k) (w : World) : (part t cells.toArray o).run P w = .ok (.agg ((cells.drop o).take k).toArray) w := by
  obtain ⟨d, h1, h2, h3⟩ := ht
  have hagg : (isAgg t).run P w = .ok true w := by
    unfold isAgg
    rw [Sem.run_bind, run_underlying h1 w]
    cases d <;> simp_all [TypeDesc.isRow]
  unfold part
  simp only [Sem.run_bind, hagg, Result.andThen_ok, if_true, Sx.run_sizeOf h3 w, Sem.run_pure]
  congr 2
  apply Array.ext'
  simp [List.extract_eq_take_drop, List.take_drop, Nat.add_comm]
theorem loadL_part (ht : TabOk P tb) {T : TypeId} {ls : List (PV I)} {o : Nat} {z : PV I} {cs : List Value} {w : World} (h : loadL tb T ls o = some z) (hl : RG X c σ ls cs) :
    ∃ r, RV X c σ z r ∧ (part T cs.toArray o).run P w = .ok r w := by
  rcases loadL_cells ht h hl with ⟨k, h1, _, h3⟩ | ⟨h1, v, h2, h3⟩
  · exact ⟨_, h3, part_row h1 w⟩
  · exact ⟨v, h3, part_one h1 h2 w⟩
/-! ### operands -/
def ofC : Value → Option (PV I)
  | .int k n => some (.int k n)
  | .bool b => some (.bool b)
  | .string s => some (.str s)
  | _ => none
def evP (n : Nat) (G : Nat → Option (PV I)) : Operand → Option (PV I)
  | .tmp t => bif Nat.blt t n then G t else none
  | .const v => ofC v
  | .func f => some (.clo f [])
  | .global _ => none
/-- An operand of a known type: a nil slice needs it. -/
def evT (tb : Tab I) (n : Nat) (G : Nat → Option (PV I)) (T : Option TypeId) (x : Operand) : Option (PV I) :=
  match x with
  | .const (.slice none 0 0) => Option.bind T fun T => Option.bind (tb.el T) fun E => some (.nl E)
  | x => evP n G x
abbrev Fits (X : Cxt) (c : Cx) (σ : S) (G : Nat → Option (PV I)) (F : Fr) : Prop := ∀ t p, G t = some p → RV X c σ p (F t)
variable {G : Nat → Option (PV I)} {n : Nat} {F : Fr}
theorem evP_ok (h : Fits X c σ G F) {x : Operand} {p : PV I} (hx : evP n G x = some p) : opOk n x = true ∧ RV X c σ p (ev F x) := by
  cases x with
  | tmp t =>
    obtain ⟨h1, hx⟩ := bif_some hx
    exact ⟨h1, h t p hx⟩
  | const v =>
    refine ⟨rfl, ?_⟩
    cases v <;> simp [evP, ofC] at hx <;> subst hx <;> simp [RV, ev]
  | func f =>
    refine ⟨rfl, ?_⟩
    simp [evP] at hx
    subst hx
    simp [RV, RVs, ev]
  | «global» g => simp [evP] at hx
theorem evT_ok (h : Fits X c σ G F) {x : Operand} {T : Option TypeId} {p : PV I} (hx : evT tb n G T x = some p) : opOk n x = true ∧ RV X c σ p (ev F x) := by
  unfold evT at hx
  split at hx
  · obtain ⟨T', hT, hx⟩ := bind_some hx
    obtain ⟨E, hE, hx⟩ := bind_some hx
    cases hx
    refine ⟨rfl, ?_⟩
    simp only [RV, ev]
    exact ⟨none, rfl⟩
  · exact evP_ok h hx
def evs (tb : Tab I) (n : Nat) (G : Nat → Option (PV I)) : List Operand → List TypeId → Option (List (PV I))
  | [], _ => some []
  | x :: r, Ts => Option.bind (evT tb n G Ts.head? x) fun p => Option.bind (evs tb n G r Ts.tail) fun ps => some (p :: ps)
theorem evs_ok (h : Fits X c σ G F) : ∀ {xs : List Operand} {Ts : List TypeId} {ps : List (PV I)}, evs tb n G xs Ts = some ps → xs.all (opOk n) = true ∧ RVs X c σ ps (xs.map (ev F))
  | [], _, ps, he => by cases he; simp [RVs]
  | x :: r, Ts, ps, he => by
    obtain ⟨p, hp, he⟩ := bind_some he
    obtain ⟨qs, hq, he⟩ := bind_some he
    cases he
    obtain ⟨h1, h2⟩ := evT_ok h hp
    obtain ⟨h3, h4⟩ := evs_ok h hq
    refine ⟨by simp only [List.all_cons, h1, h3, Bool.and_self], ?_⟩
    simp only [List.map_cons, RVs]
    exact ⟨_, _, rfl, h2, h4⟩
/-- The pieces of the value's cells. -/
def cellsP : PV I → Option (List (PV I))
  | .agg ls => some ls
  | .dat E x => some [.dat E x]
  | .tup _ => none
  | .undef => none
  | .any => none
  | .ep _ _ _ => none
  | .vp _ _ _ _ => none
  | .vs _ _ _ => none
  | p => some [p]
theorem cellsP_ok {p : PV I} {v : Value} {ls : List (PV I)} (h : cellsP p = some ls) (hv : RV X c σ p v) : RG X c σ ls v.cells.toList := by
  cases p <;> simp [cellsP] at h <;> subst h
  case agg ls =>
    simp only [RV] at hv
    obtain ⟨cs, rfl, hl⟩ := hv
    simpa [Value.cells] using hl
  case dat E x =>
    simp only [RV] at hv
    obtain ⟨cs, rfl, hl⟩ := hv
    simpa [Value.cells] using RG.one hl
  all_goals
    have hv' := hv
    simp only [RV] at hv
    have hcell : v.cells.toList = [v] := by
      first
        | (subst hv; rfl)
        | (obtain ⟨A, k, rfl, _⟩ := hv; rfl)
        | (obtain ⟨A, rfl⟩ := hv; rfl)
        | (obtain ⟨b, w, _, rfl⟩ := hv; rfl)
        | (obtain ⟨p, _, rfl⟩ := hv; rfl)
        | (obtain ⟨cs, rfl, _⟩ := hv; rfl)
        | (obtain ⟨f, as, cs, rfl, _⟩ := hv; rfl)
    rw [hcell]
    exact RG.single rfl hv'
/-! ### structs -/
/-- A stretch of cells is laid over. -/
def overG (tb : Tab I) (o : Nat) (vs ls : List (PV I)) : Option (List (PV I)) :=
  Option.bind (splitG tb 300 o ls) fun q => Option.bind (splitG tb 300 (sizeG vs) q.2) fun r => some (q.1 ++ vs ++ r.2)
theorem overG_ok (ht : TabOk P tb) {o : Nat} {vs ls out : List (PV I)} {cs cv : List Value} (h : overG tb o vs ls = some out) (hl : RG X c σ ls cs) (hv : RG X c σ vs cv) :
    o + cv.length ≤ cs.length ∧ RG X c σ out (cs.take o ++ cv ++ cs.drop (o + cv.length)) := by
  obtain ⟨q, hq, h⟩ := bind_some h
  obtain ⟨r, hr, h⟩ := bind_some h
  cases h
  obtain ⟨c1, c2, rfl, k1, k2, k3⟩ := splitG_ok ht (a := q.1) (b := q.2) hq hl
  obtain ⟨d1, d2, rfl, m1, m2, m3⟩ := splitG_ok ht (a := r.1) (b := r.2) hr k3
  have hlen := RG.len _ _ hv
  refine ⟨by simp only [List.length_append]; omega, ?_⟩
  have e1 : (c1 ++ (d1 ++ d2)).take o = c1 := by rw [← k1, List.take_left]
  have e2 : (c1 ++ (d1 ++ d2)).drop (o + cv.length) = d2 := by
    rw [show o + cv.length = (c1 ++ d1).length by simp only [List.length_append]; omega, ← List.append_assoc, List.drop_left]
  rw [e1, e2]
  exact RG.app _ _ _ _ (RG.app _ _ _ _ k2 hv) m3
def fillP (tb : Tab I) (pl : List (Nat × Nat)) : List (PV I) → List (Nat × List (PV I)) → Option (List (PV I))
  | cells, [] => some cells
  | cells, (i, vs) :: rest =>
    match pl[i]? with
    | none => none
    | some (off, size) => bif Nat.beq (sizeG vs) size then Option.bind (overG tb off vs cells) fun cells' => fillP tb pl cells' rest else none
def RVp (X : Cxt) (c : Cx) (σ : S) : List (Nat × List (PV I)) → List (Nat × List Value) → Prop
  | [], qs => qs = []
  | p :: ps, qs => ∃ v r, qs = (p.1, v) :: r ∧ RG X c σ p.2 v ∧ RVp X c σ ps r
theorem fillP_ok (ht : TabOk P tb) (pl : List (Nat × Nat)) : ∀ (ps : List (Nat × List (PV I))) (qs : List (Nat × List Value)) (ls out : List (PV I)) (cs : List Value), fillP tb pl ls ps = some out → RG X c σ ls cs → RVp X c σ ps qs →
    ∃ co, fillL pl cs qs = some co ∧ RG X c σ out co
  | [], qs, ls, out, cs, h, hl, hp => by
    simp only [RVp] at hp
    subst hp
    simp only [fillP, Option.some.injEq] at h
    subst h
    exact ⟨cs, rfl, hl⟩
  | (i, vs) :: ps, qs, ls, out, cs, h, hl, hp => by
    simp only [RVp] at hp
    obtain ⟨v, r, rfl, h1, h2⟩ := hp
    simp only [fillP] at h
    cases e : pl[i]? with
    | none => rw [e] at h; cases h
    | some q =>
      obtain ⟨off, size⟩ := q
      rw [e] at h
      obtain ⟨hb, h⟩ := bif_some h
      obtain ⟨cells', hc', h⟩ := bind_some h
      obtain ⟨k1, k2⟩ := overG_ok ht hc' hl h1
      obtain ⟨co, h3, h4⟩ := fillP_ok ht pl ps r _ out _ h k2 h2
      refine ⟨co, ?_, h4⟩
      simp only [fillL, e]
      have g1 := RG.len _ _ h1
      have hb1 : Nat.beq v.length size = true := by rw [g1]; exact hb
      have hb2 : Nat.ble (off + v.length) cs.length = true := Nat.ble_eq_true_of_le k1
      rw [hb1, hb2]
      exact h3
def evB (tb : Tab I) (n : Nat) (G : Nat → Option (PV I)) (T : Nat → Option TypeId) : List (Nat × Operand) → Option (List (Nat × List (PV I)))
  | [] => some []
  | (i, x) :: r => Option.bind (evT tb n G (T i) x) fun p => Option.bind (cellsP p) fun ls => Option.bind (evB tb n G T r) fun q => some ((i, ls) :: q)
theorem evB_ok (h : Fits X c σ G F) {T : Nat → Option TypeId} : ∀ {xs : List (Nat × Operand)} {ps : List (Nat × List (PV I))}, evB tb n G T xs = some ps →
    xs.all (fun p => opOk n p.2) = true ∧ RVp X c σ ps ((xs.map fun p => (p.1, ev F p.2)).map fun p => (p.1, p.2.cells.toList))
  | [], ps, he => by cases he; simp [RVp]
  | (i, x) :: r, ps, he => by
    obtain ⟨p, hp, he⟩ := bind_some he
    obtain ⟨ls, hls, he⟩ := bind_some he
    obtain ⟨qs, hq, he⟩ := bind_some he
    cases he
    obtain ⟨h1, h2⟩ := evT_ok h hp
    obtain ⟨h3, h4⟩ := evB_ok h hq
    refine ⟨by simp only [List.all_cons, h1, h3, Bool.and_self], ?_⟩
    simp only [List.map_cons, RVp]
    exact ⟨_, _, rfl, cellsP_ok hls h2, h4⟩
end
end Go.Qx
