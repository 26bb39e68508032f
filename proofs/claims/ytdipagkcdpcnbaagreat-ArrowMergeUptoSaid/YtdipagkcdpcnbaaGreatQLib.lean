/- The symbolic executor: functions of the libraries whose contracts are shown by hand. -/
import Derived.Test.YtdipagkcdpcnbaaGreatQVal
namespace Go.Qx
open Go Go.RowKit Go.Sx

section
variable {I : TypeId → Type} [∀ E, Rp (I E)] {P : Program}
def cmpF (a b : ByteArray) : Option Int := some (strCmp a b)
theorem cmp_ok {f : FuncId} {fn : Func} (hf : P.funcs[f]? = some fn) (hname : (fn.name == "runtime.NumGoroutine") = false) (hb : fn.body.isNone = true) (hn : Extern.findNext fn = none) (he : Extern.find fn = some Extern.BytealgCompare.compare) :
    RowOk P (⟨f, [.d .str, .d .str], [.k (.d (.int .i64))], cmpF⟩ : Row I) := by
  intro σ a vs pls res hA _ happ
  obtain ⟨v, _, p1, _, rfl, rfl, ⟨h1, rfl⟩, v2, _, p2, _, rfl, rfl, ⟨h2, rfl⟩, rfl, rfl⟩ := hA
  have h1 : v = .string a.1 := h1
  have h2 : v2 = .string a.2.1 := h2
  have hr : cmpF a.1 a.2.1 = some res := happ
  subst h1
  subst h2
  cases hr
  refine .inr ⟨_, σ, x_cmp hf hname hb hn he a.1 a.2.1 σ.w, Stp.refl _ σ, [.int .i64 (strCmp a.1 a.2.1)], [], [], ⟨rfl, rfl, ⟨_, rfl, rfl, rfl⟩, rfl, by simp [ows], fun g hg => by simp [ows] at hg⟩⟩
/-! ### slices.Clone -/
def cloneF {α : Type} (b : Nat) (xs : List α) : Option (List α) := Option.bind (room (0 + xs.length) b) fun _ => some xs
def noH : Hints I := ⟨fun _ => [], fun _ => [], fun _ => [], fun _ => none, fun _ => none, fun _ => none⟩
def noD : Disp I := fun _ _ _ _ _ _ => none
theorem noD_ok : DispOk P (noD : Disp I) := ⟨fun _ _ _ _ _ _ => rfl, fun _ _ _ _ _ h => by cases h⟩
def cloneS (E : TypeId) (xs : List (I E)) : St I := ⟨8, fun i => bif Nat.beq i 0 then some (.sl E xs false) else none, fun _ => none, 0⟩
theorem clone_ok {tb : Tab I} (ht : TabOk P tb) (hmx : P.follows .mixedOrders = true) {f : FuncId} {fn : Func} {T E : TypeId} {b : Nat} {i0 i1 i2 : Nat} {p0 p1 p2 p3 : String} {a2 : Array Edge} {t0 t1 t2 t3 t4 : TypeId} {cd3 : Code}
    (hf : P.funcs[f]? = some fn) (hname : (fn.name == "runtime.NumGoroutine") = false) (hn : fn.ntmps = 8) (hres : fn.results.toList = [.tmp 2]) (hT : P.underlying T = some (.slice E))
    (hb : fn.body = some (.seq (.region i0 #[⟨some 2, .assign (.const (.slice none 0 0)), t0, p0, #[], none⟩] false) (.seq (.seq (.region i1 #[⟨some 3, .move (.tmp 0), t1, p1, #[], none⟩, ⟨some 4, .binOp .eql T (.tmp 3) (.const (.slice none 0 0)) t2, t3, p2, a2, none⟩] false)
      (.cond (.tmp 4) (.seq (.region i2 #[⟨some 2, .assign (.const (.slice none 0 0)), t4, p3, #[], none⟩] false) .ret) .skip)) cd3)))
    (hcode : codeOk (noH : Hints I) cd3 1 = true) (hex : ∀ xs : List (I E), exec tb noD noH cd3 1 (List (I E)) (cloneS E xs) (fin tb [.d (.sl E)] [.k (.row E false)] [.tmp 2]) = cloneF b xs) :
    RowOk P (⟨f, [.d (.sl E)], [.k (.row E false)], cloneF b⟩ : Row I) := by
  refine row_of ht 8 hf hb hname hn hres rfl fun X c σ F Q a res hX hrel happ hk => ?_
  subst hX
  have happ : cloneF b a.1 = some res := happ
  have h0 := hrel.frame 0 (.sl E a.1 false) rfl
  simp only [RV] at h0
  obtain ⟨A, k, e0, hs, _⟩ := h0
  refine wp_seq (wp_region_lit ?_)
  refine r_assign (.slice none 0 0) rfl rfl ?_
  refine wpList_nil (p_then (wp_seq (wp_seq (wp_region_lit ?_))))
  refine r_move (.slice A (a.1 : List (I E)).length k) e0 rfl ?_
  refine r_bin (.slice A (a.1 : List (I E)).length k) (.slice none 0 0) (.bool A.isNone) rfl rfl rfl rfl (b_nil hT) ?_
  refine wpList_nil (p_then ?_)
  have hgen : ∀ (G : Fr), G 0 = F 0 → Rel X c σ (cloneS E a.1) 8 G := fun G hG =>
    ⟨rfl, (fun i p hp => by
      have : (bif Nat.beq i 0 then some (PV.sl E a.1 false) else none) = some p := hp
      obtain ⟨hi, hp⟩ := bif_some this
      cases hp
      have := Nat.eq_of_beq_eq_true hi
      subst this
      rw [hG]
      exact hrel.frame 0 _ rfl), (fun l o ho => by cases ho), (fun _ _ _ _ _ ⟨_, h⟩ => by cases h), (fun _ _ _ ⟨_, h⟩ => by cases h), fun l _ => hrel.nom l rfl, hrel.base⟩
  refine (Bool.eq_false_or_eq_true A.isNone).elim (fun hn4 => ?_) (fun hn4 => ?_)
  · have e : a.1 = [] := hs.nil_of hn4
    have hr : res = [] := by
      rw [e] at happ
      simp [cloneF, room] at happ
      exact (Option.some.inj happ).symm
    refine c_true rfl hn4 rfl ?_
    refine wp_seq (wp_region_lit ?_)
    refine r_assign (.slice none 0 0) rfl rfl ?_
    refine wpList_nil (p_then (wp_ret (p_thenr ?_)))
    subst hr
    refine hk .ret (Qx.put (cloneS E a.1) (some 2) (.nl E)) c σ _ ?_ (Cx.le_refl c) ((hgen (putF (putF (putF F (some 2) (.slice none 0 0)) (some 3) (.slice A (a.1 : List (I E)).length k)) (some 4) (.bool A.isNone)) rfl).put (some 2) _ (.slice none 0 0) (by simp only [RV]; exact ⟨none, rfl⟩)) (Stp.refl _ σ)
    rfl
  · refine c_false rfl hn4 rfl ?_
    refine wp_skip (p_then ?_)
    exact exec_ok ht noD_ok hmx cd3 1 hcode _ _ _ res X c σ _ Q rfl ((hex a.1).trans happ) (hgen _ rfl) fun e s' c' τ F' g1 g2 g3 g4 _ => hk e s' c' τ F' g1 g2 g3 g4
end
end Go.Qx
