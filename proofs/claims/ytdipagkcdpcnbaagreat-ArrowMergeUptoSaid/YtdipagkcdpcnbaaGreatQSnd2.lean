/- The symbolic executor: every operation is right. -/
import Derived.Test.YtdipagkcdpcnbaaGreatQSnd
namespace Go.Qx
open Go Go.RowKit Go.Sx

section
variable {I : TypeId → Type} [∀ E, Rp (I E)] {P : Program} {tb : Tab I} {X : Cxt} {c c' : Cx} {σ τ : S} {s : St I} {n : Nat} {F : Fr} {O : Obs I}
/-- A new variable. -/
theorem Rel.newVar (h : Rel X c σ s n F) {nb : Nat} {T : TypeId} {ls : List (PV I)} {cs : List Value} {b : Nat} (hnb : s.O nb = none) (hE : Ext σ τ) (hb : Blk σ.N 0 τ b T cs) (hl : RG X c τ ls cs) :
    Cx.le c (addC c nb ⟨some ⟨b, 0, none⟩, 0, 0, some b⟩) ∧ Rel X (addC c nb ⟨some ⟨b, 0, none⟩, 0, 0, some b⟩) τ (setO s nb (some (.var T ls true))) n F := by
  have h' := h.step (Stp.ext hE)
  have hle : Cx.le c (addC c nb ⟨some ⟨b, 0, none⟩, 0, 0, some b⟩) := addC_le (h.nom nb hnb)
  refine h'.add hnb (fun g hg => ?_) ⟨b, cs, addC_self _ _ _, RG.grow hle _ _ hl, hb.2.1, fun _ => by rw [hb.2.2], fun e => by cases e⟩
  cases hg
  refine ⟨.inl (Nat.le_trans h.base hb.1), fun l' p' ⟨o, ho⟩ hc hw => ?_⟩
  have := (h.objs l' o ho).lt hc hw
  have := hb.1
  omega
/-- A new row, in a block that no object holds. -/
theorem Rel.newRow (h : Rel X c σ s n F) {nb : Nat} {E : TypeId} {xs : List (I E)} {fl : Bool} {A : Option Addr} {k : Nat} {ow : Option Nat} (hnb : s.O nb = none) (ho : OwnR ow fl E σ xs A k)
    (hw : ∀ g, ow = some g → X.M g ∧ ∀ l' p', live s l' → c l' = some p' → p'.w ≠ some g) :
    Cx.le c (addC c nb ⟨A, k, xs.length, ow⟩) ∧ Rel X (addC c nb ⟨A, k, xs.length, ow⟩) σ (setO s nb (some (.row E xs fl))) n F :=
  h.add hnb hw ⟨A, k, ow, addC_self _ _ _, ho⟩
omit [∀ E, Rp (I E)] in
theorem freeN_one {O : Obs I} {nb : Nat} {o : Ob I} (h : freeN O nb [o] = true) : O nb = none := by
  simp only [freeN, Bool.and_true] at h
  simpa using h
omit [∀ E, Rp (I E)] in
theorem viewOf_some {E : TypeId} {p : PV I} {lo hi mx : Option Operand} {l : Nat} {xs : List (I E)} {y : Operand} (h : viewOf O E p lo hi mx = some (l, xs, y)) : p = .vw l ∧ lo = some y ∧ hi = none ∧ mx = none ∧ O l = some (some (.row E xs false)) := by
  unfold viewOf at h
  split at h
  · split at h
    · rename_i l0 x0 E' xs0 ho
      replace h := bind_some h
      obtain ⟨ys, hys, h⟩ := h
      obtain ⟨e, e'⟩ := castL_ok hys
      subst e
      subst e'
      cases h
      exact ⟨rfl, rfl, rfl, rfl, ho⟩
    · cases h
  · cases h
theorem sl_view {T E : TypeId} {g len k sz : Nat} {j : Int} {w : World} (h0 : 0 ≤ j) (hlt : j < (len : Int)) (hle : len ≤ k) (hT : P.underlying T = some (.slice E)) (hE : (P.info? E).map (·.size) = some sz) :
    Runs P w (Instr.sliceAt T (.slice (some ⟨g, 0, none⟩) len k) (some (.int .i64 j)) none none) (.slice (some ⟨g, j.toNat * sz, none⟩) (len - j.toNat) (k - j.toNat)) := by
  have hne : k ≠ j.toNat := by omega
  have hjl : j ≤ (len : Int) := by omega
  simp only [Runs, Instr.sliceAt, Instr.slice, Instr.sliceBounds, Instr.sliceBound, asIntOf, Sem.run_bind, run_underlying hT, Result.andThen_ok, Sem.run_pure, if_pos (And.intro h0 hjl), Sx.run_sizeOf hE, if_neg hne, Option.map_some, Addr.add_mid, Nat.zero_add]
theorem snd (ht : TabOk P tb) {disp : Disp I} (hd : DispOk P disp) (h : Rel X c σ s n F) (hX : X.P = P) {G : Nat → Option (PV I)} (hG0 : ∀ i p, G i = some p → s.F i = some p) (hO0 : ∀ l o, O l = some (some o) → s.O l = some (some o)) {o : Oper} (hg : o.guard = none) {e : Ef I} {nb : Nat}
    (hx : eff tb disp n G O nb o.type o.op some = some e) (hf : freeN (apU s.O e.upd) nb e.new = true) {ops : Array Oper} {Q : Exit → Act → World → Prop} {rest : List Oper}
    (hk : ∀ v τ c', Cx.le c c' → Rel X c' τ (apE s nb e) n F → RV X c' τ e.p v → Stp X.M σ τ → wpList P ops Q rest (fr n (putF F o.dst v)) τ.w) : wpList P ops Q (o :: rest) (fr n F) σ.w := by
  have hG : Fits X c σ G F := fun i p hp => h.frame i p (hG0 i p hp)
  have hO : ∀ l o, O l = some (some o) → ObjOk X c σ l o := fun l o ho => h.objs l o (hO0 l o ho)
  have hval : ∀ v p, e = ⟨p, [], []⟩ → RV X c σ p v → wpList P ops Q rest (fr n (putF F o.dst v)) σ.w := fun v p he hv => by
    subst he
    exact hk v σ c (Cx.le_refl c) h hv (Stp.refl _ _)
  have hx0 := hx
  obtain ⟨d, op, ty, pos, aft, g⟩ := o
  simp only at hg hx hk hval hx0
  subst hg
  have E1 : ∀ {x p}, evP n G x = some p → opOk n x = true ∧ RV X c σ p (ev F x) := fun hp => evP_ok hG hp
  have E2 : ∀ {x p T}, evT tb n G T x = some p → opOk n x = true ∧ RV X c σ p (ev F x) := fun hp => evT_ok hG hp
  -- after rows are settled
  have hpub : ∀ ls : List Nat, (∀ τ, τ.w = σ.w → Stp X.M σ τ → Rel X c τ (pubS s O ls) n F → Sett X c τ O ls → Rows X c τ O ls → Fits X c τ G F → (∀ l, l ∉ ls → (pubS s O ls).O l = s.O l) → wpList P ops Q (⟨d, op, ty, pos, aft, none⟩ :: rest) (fr n F) τ.w) → wpList P ops Q (⟨d, op, ty, pos, aft, none⟩ :: rest) (fr n F) σ.w := fun ls k => by
    obtain ⟨τ, h1, h2, h3, h4, h5, h6⟩ := h.pubs hO0 ls
    rw [← h1]
    exact k τ h1 h2 h3 h4 h5 (hG.step h2) h6
  unfold eff at hx
  split at hx
  iterate 14 (exact snd_val (o := ⟨d, _, ty, pos, aft, none⟩) ht h hX hG hO rfl (by trivial) hx0 hval)
  · exact snd_val (o := ⟨d, _, ty, pos, aft, none⟩) ht h hX hG hO rfl (by trivial) hx0 hval
  · rename_i T x lo hi mx
    replace hx := bind_some hx
    obtain ⟨p0, hp, hx⟩ := hx
    replace hx := bind_some hx
    obtain ⟨E, hE, hx⟩ := hx
    obtain ⟨h1, h2⟩ := E1 hp
    obtain ⟨t1, t2⟩ := ht.el _ _ hE
    split at hx
    · rename_i w hw
      obtain ⟨l, xs, y⟩ := w
      obtain ⟨rfl, rfl, rfl, rfl, ho⟩ := viewOf_some hw
      replace hx := bind_some hx
      obtain ⟨q, hq, hx⟩ := hx
      replace hx := bind_some hx
      obtain ⟨j, hj, hx⟩ := hx
      replace hx := bind_some hx
      obtain ⟨x0, hx0', hx⟩ := hx
      obtain ⟨h3, h4⟩ := E1 hq
      have hjv : ev F y = .int .i64 j := by
        unfold asI at hj
        split at hj
        · cases hj; simpa only [RV] using h4
        · cases hj
      obtain ⟨A, k, ow, k1, k2⟩ := hO _ _ ho
      simp only [RV] at h2
      obtain ⟨pl, k3, e1⟩ := h2
      rw [k1] at k3
      cases k3
      obtain ⟨h0, hxj⟩ := idx_some hx0'
      have hlt : j.toNat < xs.length := (List.getElem?_eq_some_iff.1 hxj).1
      cases ow with
      | none =>
        rcases k2 with ⟨e, _⟩ | ⟨e, _⟩
        · subst e; simp at hxj
        · cases e
      | some g =>
        obtain ⟨cur, cs, e, _, hle, _⟩ := k2
        subst e
        cases hx
        refine r_slice _ _ (some (.int .i64 j)) none none e1 h1 (by rw [← hjv]; rfl) rfl rfl (by simp [h3]) (sl_view (len := xs.length) (k := k) (g := g) (sz := Rp.sz (I E)) (w := σ.w) h0 (by omega) hle t1 t2) (hval _ _ rfl ?_)
        simp only [RV]
        exact ⟨g, k, xs.length, _, k1, rfl⟩
    replace hx := bind_some hx
    obtain ⟨xs, hxs, hx⟩ := hx
    refine hpub xs.2 fun τ hw hst hrel hS hR hGt hold => ?_
    obtain ⟨A, k, e1, hs⟩ := getSl_ok hS (ls := xs.2) hxs (fun l hl => hl) (RV.step hst _ _ h2)
    have fin : ∀ (q : PV I) v, e = ⟨q, pubU O xs.2, []⟩ → RV X c τ q v → wpList P ops Q rest (fr n (putF F d v)) τ.w := fun q v he hv => by
      subst he
      exact hk v τ c (Cx.le_refl c) hrel hv hst
    have E1t : ∀ {x p}, evP n G x = some p → opOk n x = true ∧ RV X c τ p (ev F x) := fun hp => evP_ok hGt hp
    have asI_ok : ∀ {q : PV I} {j : Int} {v : Value}, asI q = some j → RV X c τ q v → v = .int .i64 j := by
      intro q j v hj hv
      unfold asI at hj
      split at hj
      · cases hj; simpa only [RV] using hv
      · cases hj
    split at hx
    · cases hx
      exact r_slice _ _ none (some (.int .i64 0)) (some (.int .i64 0)) e1 h1 rfl rfl rfl rfl (sl_zero t1 t2) (fin _ _ rfl (by simp only [RV]; exact ⟨A, rfl⟩))
    · replace hx := bind_some hx
      obtain ⟨q, hq, hx⟩ := hx
      replace hx := bind_some hx
      obtain ⟨q', hq', hx⟩ := hx
      replace hx := bind_some hx
      obtain ⟨h', hh', hx⟩ := hx
      replace hx := bind_some hx
      obtain ⟨m', hm', hx⟩ := hx
      replace hx := bif_some hx
      obtain ⟨hb, hx⟩ := hx
      simp only [Bool.and_eq_true, beq_iff_eq] at hb
      obtain ⟨rfl, rfl⟩ := hb
      obtain ⟨h3, h4⟩ := E1t hq
      obtain ⟨h5, h6⟩ := E1t hq'
      have h4' := asI_ok hh' h4
      have h6' := asI_ok hm' h6
      cases hx
      exact r_slice _ _ none (some (.int .i64 _)) (some (.int .i64 _)) e1 h1 rfl (by rw [← h4']; rfl) (by rw [← h6']; rfl) (by simp [h3, h5]) (sl_clip hs t1 t2) (fin _ _ rfl (by simp only [RV]; exact ⟨A, xs.1.length, rfl, hs.clip, fun _ => rfl⟩))
    · replace hx := bind_some hx
      obtain ⟨q, hq, hx⟩ := hx
      replace hx := bind_some hx
      obtain ⟨h', hh', hx⟩ := hx
      replace hx := bind_some hx
      obtain ⟨ys, hy, hx⟩ := hx
      obtain ⟨h3, h4⟩ := E1t hq
      have h4' := asI_ok hh' h4
      obtain ⟨A', m', hr, hs'⟩ := sl_cut_h hs hy t1 t2
      cases hx
      exact r_slice _ _ none (some (.int .i64 _)) none e1 h1 rfl (by rw [← h4']; rfl) rfl (by simp [h3]) hr (fin _ _ rfl (by simp only [RV]; exact ⟨A', m', rfl, hs', fun e => by cases e⟩))
    · replace hx := bind_some hx
      obtain ⟨q, hq, hx⟩ := hx
      replace hx := bind_some hx
      obtain ⟨h', hh', hx⟩ := hx
      replace hx := bind_some hx
      obtain ⟨ys, hy, hx⟩ := hx
      obtain ⟨h3, h4⟩ := E1t hq
      have h4' := asI_ok hh' h4
      obtain ⟨A', m', hr, hs'⟩ := sl_cut_l hs hy t1 t2
      cases hx
      exact r_slice _ _ (some (.int .i64 _)) none none e1 h1 (by rw [← h4']; rfl) rfl rfl (by simp [h3]) hr (fin _ _ rfl (by simp only [RV]; exact ⟨A', m', rfl, hs', fun e => by cases e⟩))
    · replace hx := bind_some hx
      obtain ⟨q, hq, hx⟩ := hx
      replace hx := bind_some hx
      obtain ⟨q', hq', hx⟩ := hx
      replace hx := bind_some hx
      obtain ⟨l', hl', hx⟩ := hx
      replace hx := bind_some hx
      obtain ⟨h', hh', hx⟩ := hx
      replace hx := bind_some hx
      obtain ⟨ys, hy, hx⟩ := hx
      obtain ⟨h3, h4⟩ := E1t hq
      obtain ⟨h5, h6⟩ := E1t hq'
      have h4' := asI_ok hl' h4
      have h6' := asI_ok hh' h6
      obtain ⟨A', m', hr, hs'⟩ := sl_cut_l_h hs hy t1 t2
      cases hx
      exact r_slice _ _ (some (.int .i64 _)) (some (.int .i64 _)) none e1 h1 (by rw [← h4']; rfl) (by rw [← h6']; rfl) rfl (by simp [h3, h5]) hr (fin _ _ rfl (by simp only [RV]; exact ⟨A', m', rfl, hs', fun e => by cases e⟩))
    · cases hx
  · replace hx := bind_some hx
    obtain ⟨ls, hz, hx⟩ := hx
    cases hx
    have hnb : s.O nb = none := freeN_one hf
    obtain ⟨z, sz, by_, cs, hT, hc, hl⟩ := ht.zero _ _ hz
    refine r_alloc (B := σ.N) 0 (Nat.le_refl _) z cs hT hc fun τ b hE hB => ?_
    obtain ⟨k1, k2⟩ := h.newVar hnb hE hB (hl X c τ)
    exact hk _ τ _ k1 k2 (by simp only [RV]; exact ⟨b, _, addC_self _ _ _, rfl⟩) (Stp.ext hE).no
  · replace hx := bind_some hx
    obtain ⟨q, hq, hx⟩ := hx
    replace hx := bind_some hx
    obtain ⟨ls, hls, hx⟩ := hx
    cases hx
    have hnb : s.O nb = none := freeN_one hf
    obtain ⟨h1, h2⟩ := E2 hq
    have hl := cellsP_ok hls h2
    refine r_box (B := σ.N) 0 (Nat.le_refl _) _ _ rfl h1 rfl fun τ b hE hB => ?_
    obtain ⟨k1, k2⟩ := h.newVar hnb hE hB (RG.step (Stp.ext hE).no _ _ hl)
    exact hk _ τ _ k1 k2 (by simp only [RV]; exact ⟨b, _, addC_self _ _ _, rfl⟩) (Stp.ext hE).no
  · rename_i T x y
    replace hx := bind_some hx
    obtain ⟨p, hp, hx⟩ := hx
    replace hx := bind_some hx
    obtain ⟨q, hq, hx⟩ := hx
    replace hx := bind_some hx
    obtain ⟨vs, hvs, hx⟩ := hx
    replace hx := bind_some hx
    obtain ⟨m, hm, hx⟩ := hx
    replace hx := bif_some hx
    obtain ⟨hb, hx⟩ := hx
    simp only [Bool.and_eq_true] at hb
    have b1 := Nat.eq_of_beq_eq_true hb.1
    have b2 := hb.2
    subst b1
    obtain ⟨h1, h2⟩ := E1 hp
    obtain ⟨h3, h4⟩ := E2 hq
    split at hx
    · rename_i l o
      split at hx
      · rename_i T' ls ho
        replace hx := bind_some hx
        obtain ⟨ls', hls', hx⟩ := hx
        cases hx
        have hl := cellsP_ok hvs h4
        generalize hvv : (ev F y).cells.toList = cvs at hl
        obtain ⟨b, cs, k1, k2, k3, k4, _⟩ := hO _ _ ho
        simp only [RV] at h2
        obtain ⟨b', w', k6, h2⟩ := h2
        rw [k1] at k6
        cases k6
        have g1 := RG.len _ _ hl
        obtain ⟨g2, g3⟩ := overG_ok ht hls' k2 hl
        have hB : Blk 0 b (can σ) b T' cs := ⟨Nat.zero_le _, k3, by show ((σ.L b).1, b) = _; rw [k4 rfl]⟩
        show wpList P ops Q _ (fr n F) (can σ).w
        refine r_store hB o _ cvs _ h2 rfl h1 h3 hvv (by rw [g1]; exact ht.size _ _ hm) (leafs_one _ _ b2 hl) (Nat.ble_eq_true_of_le g2) rfl fun τ hMod hB' => ?_
        have hst := stp_mod hMod
        have hM : X.M b := h.mine l _ b ⟨_, hO0 _ _ ho⟩ k1 rfl
        have hstM : Stp X.M σ τ := hst.mono fun _ _ e => by rw [e]; exact hM
        have hrel := h.upd (o' := some (.var T' ls' true)) ⟨_, hO0 _ _ ho⟩ k1 rfl hst fun o'' e => by
          cases e
          exact ⟨b, cs.take o ++ cvs ++ cs.drop (o + cvs.length), k1, RG.step hstM _ _ g3, hB'.2.1, fun _ => by rw [hB'.2.2], fun e => by cases e⟩
        exact hk _ τ c (Cx.le_refl c) hrel (by simp only [RV]) hstM
      · cases hx
    · rename_i l sz j o
      split at hx
      · rename_i E xs ho
        replace hx := bif_some hx
        obtain ⟨b3, hx⟩ := hx
        have b3' := Nat.eq_of_beq_eq_true b3
        subst b3'
        replace hx := bind_some hx
        obtain ⟨t, ht', hx⟩ := hx
        replace hx := bind_some hx
        obtain ⟨x0, hxj, hx⟩ := hx
        replace hx := bif_some hx
        obtain ⟨b5, hx⟩ := hx
        replace hx := bind_some hx
        obtain ⟨ls', hls', hx⟩ := hx
        replace hx := bind_some hx
        obtain ⟨x1, hx1, hx⟩ := hx
        cases hx
        have b5' : l ∉ t.2 := by simpa using b5
        refine hpub t.2 fun τ hw hst hrel hS hR hGt hold => ?_
        have hl := cellsP_ok hvs (RV.step hst _ _ h4)
        generalize hvv : (ev F y).cells.toList = cvs at hl
        have hlt := datL_g hS (ls := t.2) ht' (fun l hl => hl) hl
        obtain ⟨A, k, ow, k1, k2⟩ := hR l E xs false ho b5'
        simp only [RV] at h2
        obtain ⟨b, q, k', m', w', k6, h2⟩ := h2
        rw [k1] at k6
        cases k6
        have hliv : live (pubS s O t.2) l := ⟨_, (hold l b5').trans (hO0 _ _ ho)⟩
        cases ow with
        | none =>
          rcases k2 with ⟨e, _⟩ | ⟨e, _⟩
          · subst e; simp at hxj
          · cases e
        | some g =>
          obtain ⟨cur, cs, e, hh, a1, a2, a3, a4, a5, a6⟩ := k2
          cases e
          rw [Nat.zero_add] at h2
          obtain ⟨c1, cj, c2, e1, e2, e3, e4⟩ := flat_at a4 hxj
          have g1 := RG.len _ _ hl
          obtain ⟨g4, g5⟩ := overG_ok ht hls' (RG.one (X := X) (c := c) e3) hlt
          have hcsl := a4.len
          have hcur : cur.toList = c1 ++ cj ++ c2 ++ cur.toList.drop (xs.length * Rp.sz (I E)) := by
            rw [← e1, ← a5]; exact (List.take_append_drop _ _).symm
          have hsz : cj.length = Rp.sz (I E) := Rp.len e3
          have hB : Blk 0 b (can τ) b E cur.toList := ⟨Nat.zero_le _, by show τ.w.heap[b]? = _; simpa using hh, by show ((τ.L b).1, b) = _; rw [show (τ.L b).1 = 0 from a6]⟩
          have hle : j * Rp.sz (I E) + o + cvs.length ≤ cur.toList.length := by
            rw [hcur]
            simp only [List.length_append, e2]
            omega
          have hnew : cur.toList.take (j * Rp.sz (I E) + o) ++ cvs ++ cur.toList.drop (j * Rp.sz (I E) + o + cvs.length) = c1 ++ (cj.take o ++ cvs ++ cj.drop (o + cvs.length)) ++ c2 ++ cur.toList.drop (xs.length * Rp.sz (I E)) := by
            have f1 : cur.toList.take (j * Rp.sz (I E) + o) = c1 ++ cj.take o := by
              rw [hcur, List.append_assoc, List.append_assoc, ← e2, List.take_append, Nat.add_sub_cancel_left, List.take_of_length_le (by omega), List.take_append, show o - cj.length = 0 from by omega]
              simp
            have f2 : cur.toList.drop (j * Rp.sz (I E) + o + cvs.length) = cj.drop (o + cvs.length) ++ c2 ++ cur.toList.drop (xs.length * Rp.sz (I E)) := by
              conv => lhs; rw [hcur]
              rw [List.append_assoc, List.append_assoc, ← e2, Nat.add_assoc, List.drop_append, List.drop_of_length_le (by omega), Nat.add_sub_cancel_left, List.drop_append, show o + cvs.length - cj.length = 0 from by omega]
              simp
            rw [f1, f2]
            simp only [List.append_assoc]
          show wpList P ops Q _ (fr n F) (can τ).w
          refine r_store hB (j * Rp.sz (I E) + o) _ cvs _ h2 rfl h1 h3 hvv (by rw [g1]; exact ht.size _ _ hm) (leafs_one _ _ b2 (cellsP_ok hvs (RV.step hst _ _ h4) |> fun hq => by rw [hvv] at hq; exact hq)) (Nat.ble_eq_true_of_le hle) hnew fun υ hMod hB' => ?_
          have hst2 := stp_mod hMod
          have hM : X.M b := hrel.mine l _ b hliv k1 rfl
          have hstM : Stp X.M τ υ := hst2.mono fun _ _ e => by rw [e]; exact hM
          have hrel2 := hrel.upd (o' := some (.row E (xs.set j x1) false)) hliv k1 rfl hst2 fun o'' e => by
            cases e
            refine ⟨some ⟨b, 0, none⟩, k, some b, by simpa using k1, (c1 ++ (cj.take o ++ cvs ++ cj.drop (o + cvs.length)) ++ c2 ++ cur.toList.drop (xs.length * Rp.sz (I E))).toArray, c1 ++ (cj.take o ++ cvs ++ cj.drop (o + cvs.length)) ++ c2, rfl, hB'.2.1, by simpa using a1, a2, ?_, ?_, ?_, by rw [hB'.2.2]; rfl⟩
            · rw [← hnew]
              simp only [List.size_toArray, List.length_append, List.length_take, List.length_drop]
              rw [← a3, ← Array.length_toList]
              omega
            · exact e4 υ x1 _ hstM.wext (ofG_ok ht hx1 (RG.step hstM _ _ g5))
            · rw [List.length_set]
              have hl1 : (c1 ++ (cj.take o ++ cvs ++ cj.drop (o + cvs.length)) ++ c2).length = xs.length * Rp.sz (I E) := by
                rw [← hcsl, e1]
                simp only [List.length_append, List.length_take, List.length_drop]
                omega
              rw [← hl1]
              exact List.take_left
          have hend : apE s nb ⟨.undef, pubU O t.2 ++ [(l, some (.row E (xs.set j x1) false))], []⟩ = setO (pubS s O t.2) l (some (.row E (xs.set j x1) false)) := by
            simp only [apE, addO, apU_app, apU, setO, pubS]
          exact hk _ υ c (Cx.le_refl c) (by rw [hend]; exact hrel2) (by simp only [RV]) (hst.trans hstM)
      · cases hx
    · cases hx
  · rename_i T len ps
    replace hx := bind_some hx
    obtain ⟨E, hE, hx⟩ := hx
    replace hx := bind_some hx
    obtain ⟨by_, hby, hx⟩ := hx
    obtain ⟨z, hT⟩ := ht.slice _ _ _ hE hby
    split at hx
    · rename_i he
      obtain rfl : ps = List.toArray [] := by cases ps; simp_all
      cases hx
      exact r_buildSlice0 hT fun τ A hExt => hk _ τ c (Cx.le_refl c) (h.step (Stp.ext hExt)) (by simp only [RV]; exact ⟨A, rfl⟩) (Stp.ext hExt).no
    · replace hx := bind_some hx
      obtain ⟨xs, hxs, hx⟩ := hx
      replace hx := bif_some hx
      obtain ⟨hb, hx⟩ := hx
      simp only [Bool.and_eq_true] at hb
      obtain ⟨⟨b1, b2⟩, b3⟩ := hb
      cases hx
      refine hpub xs.2 fun τ hw hst hrel hS hR hGt hold => ?_
      obtain ⟨vs, g1, g2, g3, g4, g5⟩ := evRow_ok ht hGt hS (ls := xs.2) hxs (fun l hl => hl)
      have e : ps = ps.toList.toArray := by simp
      rw [e]
      have hnb : (pubS s O xs.2).O nb = none := freeN_one hf
      refine r_buildSliceR hT xs.1 vs g1 g2 (Nat.eq_of_beq_eq_true b1) g3 (blt_lt b2) b3 g4 ?_
      let cs := vs.flatMap (·.cells.toList)
      let υ : S := ⟨τ.w.alloc (.cells cs.toArray E), fun b => if b = τ.N then (0, b) else τ.L b⟩
      have hold2 : ∀ b, b < τ.N → υ.w.heap[b]? = τ.w.heap[b]? := fun b hb => heap_alloc_old τ.w _ hb
      have hL : ∀ b, b < τ.N → υ.L b = τ.L b := fun b hb => by simp [υ, Nat.ne_of_lt hb]
      have hst2 : Stp NoB τ υ := ⟨⟨by simp [S.N, υ], fun b hb => by rw [hL b hb]; exact Nat.le_refl _, fun b o v _ hv => (cell_of_block (hold2 b (cell_lt hv)) o).trans hv, Nat.le_refl _⟩, rfl, rfl, rfl, fun b hb _ => ⟨hold2 b hb, by rw [hL b hb]⟩⟩
      have hcs : cs.length = xs.1.length * Rp.sz (I E) := g5.len
      have hmax : xs.1.length ≤ maxLen := by
        have h1 : xs.1.length ≤ xs.1.length * Rp.sz (I E) := Nat.le_mul_of_pos_right _ (Rp.pos (α := I E))
        have h2 := Nat.le_of_ble_eq_true b3
        rw [Nat.eq_of_beq_eq_true b1] at h2
        simp only [maxLen]; omega
      have hown : OwnR (some τ.N) false E υ xs.1 (some ⟨τ.N, 0, none⟩) xs.1.length :=
        ⟨cs.toArray, cs, rfl, heap_alloc_new _ _, Nat.le_refl _, hmax, by simpa using hcs, g5.mono hst2.wext, by rw [← hcs]; exact List.take_length, by simp [υ]⟩
      obtain ⟨k1, k2⟩ := (hrel.step hst2).newRow hnb hown fun g hg => by
        cases hg
        refine ⟨.inl hrel.base, fun l' p' ⟨o, ho⟩ hc hw => ?_⟩
        have := (hrel.objs l' o ho).lt hc hw
        omega
      exact hk _ υ _ k1 k2 (by simp only [RV]; exact ⟨_, addC_self _ _ _, rfl⟩) (hst.trans hst2.no)
  · rename_i T x y
    replace hx := bind_some hx
    obtain ⟨p, hp, hx⟩ := hx
    replace hx := bind_some hx
    obtain ⟨q, hq, hx⟩ := hx
    replace hx := bind_some hx
    obtain ⟨len, hlen, hx⟩ := hx
    replace hx := bind_some hx
    obtain ⟨cap, hcap, hx⟩ := hx
    replace hx := bind_some hx
    obtain ⟨E, hE, hx⟩ := hx
    replace hx := bind_some hx
    obtain ⟨by_, hby, hx⟩ := hx
    replace hx := bind_some hx
    obtain ⟨zs, hzs, hx⟩ := hx
    replace hx := bind_some hx
    obtain ⟨z0, hz0, hx⟩ := hx
    replace hx := bind_some hx
    obtain ⟨m, hm, hx⟩ := hx
    cases hx
    have hnb : s.O nb = none := freeN_one hf
    obtain ⟨h1, h2⟩ := E1 hp
    obtain ⟨h3, h4⟩ := E1 hq
    have asI_ok : ∀ {q : PV I} {j : Int} {v : Value}, asI q = some j → RV X c σ q v → v = .int .i64 j := by
      intro q j v hj hv
      unfold asI at hj
      split at hj
      · cases hj; simpa only [RV] using hv
      · cases hj
    have h2' := asI_ok hlen h2
    have h4' := asI_ok hcap h4
    obtain ⟨z, hT⟩ := ht.slice _ _ _ hE hby
    obtain ⟨z1, sz1, by1, cs1, hT1, hc1, hl1⟩ := ht.zero _ _ hzs
    have hz : z1 = z := by
      obtain ⟨i, a1, a2, _⟩ := hT1
      obtain ⟨_, ⟨i', b1, b2, _⟩, _⟩ := hT
      rw [a1] at b1
      cases b1
      rw [a2] at b2
      cases b2
      rfl
    subst hz
    have hcell : Rp.cells σ z0 z1.cells.toList := by rw [hc1]; exact ht.of X c σ E zs z0 cs1 hz0 (hl1 X c σ)
    obtain ⟨τ, k, hrun, hst, hown⟩ := run_mkRow (P := P) (σ := σ) hT hcell hm
    refine r_value rfl (.slice (some ⟨σ.N, 0, none⟩) (List.replicate m z0).length k) τ.w ?_ ?_
    · show Sem.run P (do pure (Next.value (← Instr.makeSlice T ((fr n F).eval x) ((fr n F).eval y)))) σ.w = _
      rw [eval_fr h1, eval_fr h3, h2', h4', Sem.run_bind, hrun]
      rfl
    · obtain ⟨k1, k2⟩ := (h.step hst).newRow hnb hown fun g hg => by
        cases hg
        refine ⟨.inl h.base, fun l' p' ⟨o, ho⟩ hc hw => ?_⟩
        have := (h.objs l' o ho).lt hc hw
        omega
      exact hk _ τ _ k1 k2 (by simp only [RV]; exact ⟨_, addC_self _ _ _, rfl⟩) hst.no
  · rename_i args ats
    split at hx
    · rename_i x T ea et
      obtain rfl : args = #[x] := by cases args; simp_all
      obtain rfl : ats = #[T] := by cases ats; simp_all
      replace hx := bind_some hx
      obtain ⟨p, hp, hx⟩ := hx
      obtain ⟨h1, h2⟩ := E1 hp
      split at hx
      · replace hx := bind_some hx
        obtain ⟨E, hE, hx⟩ := hx
        cases hx
        simp only [RV] at h2
        obtain ⟨A, k, e1, _⟩ := h2
        exact r_len A _ k e1 h1 (ht.el _ _ hE).1 (hval _ _ rfl (by simp only [RV]))
      · replace hx := bind_some hx
        obtain ⟨E, hE, hx⟩ := hx
        cases hx
        simp only [RV] at h2
        obtain ⟨A, e1⟩ := h2
        exact r_len A 0 0 e1 h1 (ht.el _ _ hE).1 (hval _ _ rfl (by simp only [RV]; rfl))
      · rename_i l
        split at hx
        · rename_i E' xs fl ho
          replace hx := bind_some hx
          obtain ⟨E, hE, hx⟩ := hx
          cases hx
          obtain ⟨A, k, ow, k1, _⟩ := hO _ _ ho
          simp only [RV] at h2
          obtain ⟨pl, k2, e1⟩ := h2
          rw [k1] at k2
          cases k2
          exact r_len A _ k e1 h1 (ht.el _ _ hE).1 (hval _ _ rfl (by simp only [RV]))
        · rename_i E' xs ho
          replace hx := bind_some hx
          obtain ⟨E, hE, hx⟩ := hx
          cases hx
          obtain ⟨A, k, k1, _⟩ := hO _ _ ho
          simp only [RV] at h2
          obtain ⟨pl, k2, e1⟩ := h2
          rw [k1] at k2
          cases k2
          exact r_len A _ k e1 h1 (ht.el _ _ hE).1 (hval _ _ rfl (by simp only [RV]))
        · rename_i E' xs ho
          replace hx := bind_some hx
          obtain ⟨E, hE, hx⟩ := hx
          cases hx
          obtain ⟨A, k, k1, _⟩ := hO _ _ ho
          simp only [RV] at h2
          obtain ⟨pl, k2, e1⟩ := h2
          rw [k1] at k2
          cases k2
          exact r_len A _ k e1 h1 (ht.el _ _ hE).1 (hval _ _ rfl (by simp only [RV]))
        · cases hx
      · rename_i l sz0 lo
        split at hx
        · rename_i E' xs fl ho
          replace hx := bind_some hx
          obtain ⟨E, hE, hx⟩ := hx
          cases hx
          obtain ⟨A, k, ow, k1, _⟩ := hO _ _ ho
          simp only [RV] at h2
          obtain ⟨b, k', m, w, k2, e1⟩ := h2
          rw [k1] at k2
          cases k2
          exact r_len _ _ _ e1 h1 (ht.el _ _ hE).1 (hval _ _ rfl (by simp only [RV, List.length_drop]))
        · cases hx
      · replace hx := bif_some hx
        obtain ⟨hb, hx⟩ := hx
        cases hx
        simp only [RV] at h2
        exact r_lenStr _ h2 h1 (ht.isStr _ hb) (hval _ _ rfl (by simp only [RV]))
      · cases hx
    · cases hx
  · rename_i args ats
    split at hx
    · rename_i x T ea et
      obtain rfl : args = #[x] := by cases args; simp_all
      obtain rfl : ats = #[T] := by cases ats; simp_all
      replace hx := bind_some hx
      obtain ⟨p, hp, hx⟩ := hx
      replace hx := bind_some hx
      obtain ⟨E, hE, hx⟩ := hx
      replace hx := bind_some hx
      obtain ⟨by_, hby, hx⟩ := hx
      replace hx := bind_some hx
      obtain ⟨zs, hzs, hx⟩ := hx
      replace hx := bind_some hx
      obtain ⟨z0, hz0, hx⟩ := hx
      obtain ⟨h1, h2⟩ := E1 hp
      split at hx
      · rename_i l sz lo
        split at hx
        · rename_i E' xs ho
          replace hx := bif_some hx
          obtain ⟨hb, hx⟩ := hx
          simp only [Bool.and_eq_true] at hb
          have e2 := Nat.eq_of_beq_eq_true hb.1
          have hlt := blt_lt hb.2
          subst e2
          replace hx := bind_some hx
          obtain ⟨ys, hys, hx⟩ := hx
          obtain ⟨e, e'⟩ := castL_ok hys
          subst e
          subst e'
          cases hx
          obtain ⟨z, hT⟩ := ht.slice _ _ _ hE hby
          obtain ⟨z1, sz1, by1, cs1, hT1, hc1, hl1⟩ := ht.zero _ _ hzs
          have hz : z1 = z := by
            obtain ⟨i, a1, a2, _⟩ := hT1
            obtain ⟨_, ⟨i', b1, b2, _⟩, _⟩ := hT
            rw [a1] at b1
            cases b1
            rw [a2] at b2
            cases b2
            rfl
          subst hz
          have hcell : Rp.cells σ z0 z1.cells.toList := by rw [hc1]; exact ht.of X c σ _ zs z0 cs1 hz0 (hl1 X c σ)
          obtain ⟨A, k, ow, k1, k2⟩ := hO _ _ ho
          simp only [RV] at h2
          obtain ⟨b, k', m, w, k3, e1⟩ := h2
          rw [k1] at k3
          cases k3
          cases ow with
          | none =>
            rcases k2 with ⟨e, _⟩ | ⟨e, _⟩
            · subst e; simp at hlt
            · cases e
          | some g =>
            have hg : g = b := by
              obtain ⟨cur, cs, e, _⟩ := k2
              cases e
              rfl
            subst hg
            obtain ⟨τ, hrun, hst, hown⟩ := own_clear (ty := ty) hT hcell k2 hlt
            have hM : X.M g := h.mine l _ g ⟨_, hO0 _ _ ho⟩ k1 rfl
            have hrel := h.upd (o' := some (.row _ (ys.take lo ++ List.replicate (ys.length - lo) z0) false)) ⟨_, hO0 _ _ ho⟩ k1 rfl hst fun o'' e => by
              cases e
              refine ⟨_, k, some g, ?_, hown⟩
              rw [k1]
              congr 2
              simp
              omega
            refine r_value rfl (.tuple #[]) τ.w ?_ (hk _ τ c (Cx.le_refl c) hrel (by simp only [RV]; exact ⟨[], rfl, by simp only [RVs]⟩) (hst.mono fun _ _ e => by rw [e]; exact hM))
            simp [execOp, resolve, invoke, builtin, eval_fr h1, e1, hrun]
        · cases hx
      · cases hx
    · cases hx
  · rename_i args ats
    split at hx
    · rename_i x y T T' ea et
      obtain rfl : args = #[x, y] := by cases args; simp_all
      obtain rfl : ats = #[T, T'] := by cases ats; simp_all
      replace hx := bind_some hx
      obtain ⟨p, hp, hx⟩ := hx
      replace hx := bind_some hx
      obtain ⟨q, hq, hx⟩ := hx
      obtain ⟨h1, h2⟩ := E1 hp
      obtain ⟨h3, h4⟩ := E1 hq
      split at hx
      · replace hx := if_some' hx
        obtain ⟨e, hx⟩ := hx
        subst e
        cases hx
        simp only [RV] at h2 h4
        exact r_max _ _ _ h2 h4 h1 h3 (hval _ _ rfl (by simp only [RV]))
      · cases hx
    · cases hx
  · rename_i args ats
    split at hx
    · rename_i x y T T' ea et
      obtain rfl : args = #[x, y] := by cases args; simp_all
      obtain rfl : ats = #[T, T'] := by cases ats; simp_all
      replace hx := bind_some hx
      obtain ⟨p, hp, hx⟩ := hx
      replace hx := bind_some hx
      obtain ⟨q, hq, hx⟩ := hx
      obtain ⟨h1, h2⟩ := E1 hp
      obtain ⟨h3, h4⟩ := E1 hq
      split at hx
      · replace hx := if_some' hx
        obtain ⟨e, hx⟩ := hx
        subst e
        cases hx
        simp only [RV] at h2 h4
        exact r_min _ _ _ h2 h4 h1 h3 (hval _ _ rfl (by simp only [RV]))
      · cases hx
    · cases hx
  · rename_i args ats
    split at hx
    · rename_i x y T T' ea et
      replace hx := bif_some hx
      obtain ⟨hTT, hx⟩ := hx
      have e := Nat.eq_of_beq_eq_true hTT
      subst e
      obtain rfl : args = #[x, y] := by cases args; simp_all
      obtain rfl : ats = #[T', T'] := by cases ats; simp_all
      replace hx := bind_some hx
      obtain ⟨p, hp, hx⟩ := hx
      replace hx := bind_some hx
      obtain ⟨q, hq, hx⟩ := hx
      replace hx := bind_some hx
      obtain ⟨E, hE, hx⟩ := hx
      replace hx := bind_some hx
      obtain ⟨by_, hby, hx⟩ := hx
      replace hx := bind_some hx
      obtain ⟨ys, hys, hx⟩ := hx
      obtain ⟨h1, h2⟩ := E2 hp
      obtain ⟨h3, h4⟩ := E2 hq
      obtain ⟨z, hT⟩ := ht.slice _ _ _ hE hby
      refine hpub ys.2 fun τ hw hst hrel hS hR hGt hold => ?_
      obtain ⟨A2, c2, e2, hs2⟩ := getSl_ok hS (ls := ys.2) hys (fun l hl => hl) (RV.step hst _ _ h4)
      have main : ∀ (xs : List (I E)) (A : Option Addr) (k : Nat) (ow : Option Nat) (fl : Bool) (s1 : St I), ev F x = .slice A xs.length k → OwnR ow fl E τ xs A k → (xs.length + ys.1.length) * by_ ≤ 140737488355328 → Rel X c τ s1 n F → s1.O nb = none →
          (∀ g, ow = some g → X.M g ∧ ∀ l' p', live s1 l' → c l' = some p' → p'.w ≠ some g) → apE s nb e = setO s1 nb (some (.row E (xs ++ ys.1) fl)) → e.p = .vw nb →
          wpList P ops Q (⟨d, .call ⟨.builtin .append, #[x, y], #[T', T']⟩, ty, pos, aft, none⟩ :: rest) (fr n F) τ.w := by
        intro xs A k ow fl s1 hv hown hroom hr1 hnb hfree hend hep
        obtain ⟨υ, A', c', ow', hrun, hst2, hown', hg⟩ := own_append (ty := ty) hown hs2 hT hroom
        refine r_value rfl (.slice A' (xs ++ ys.1).length c') υ.w ?_ ?_
        · simp [execOp, resolve, invoke, builtin, eval_fr h1, eval_fr h3, hv, e2, hrun]
        · have hM : ∀ b, ow = some b → X.M b := fun b hb => (hfree b hb).1
          have hr2 := hr1.stepG hst2 hM fun l p g hl hc hw hg => (hfree g hg).2 l p hl hc hw
          obtain ⟨k1, k2⟩ := hr2.newRow hnb hown' fun g hg' => by
            rcases hg g hg' with h5 | h5
            · exact hfree g h5
            · refine ⟨.inl (Nat.le_trans hr1.base h5), fun l' p' ⟨o, ho⟩ hc hw => ?_⟩
              have := (hr1.objs l' o ho).lt hc hw
              omega
          exact hk _ υ _ k1 (by rw [hend]; exact k2) (by rw [hep]; simp only [RV]; exact ⟨_, addC_self _ _ _, rfl⟩) (hst.trans (hst2.mono fun b _ hb => hM b hb))
      split at hx
      · replace hx := bind_some hx
        obtain ⟨_, hroom, hx⟩ := hx
        cases hx
        simp only [RV] at h2
        obtain ⟨A, e1⟩ := h2
        exact main [] A 0 none false (pubS s O ys.2) e1 (.inl ⟨rfl, rfl⟩) (room_some hroom) hrel (freeN_one hf) (fun g hg => by cases hg) rfl rfl
      · rename_i E' xs
        replace hx := bind_some hx
        obtain ⟨xs', hxs, hx⟩ := hx
        replace hx := bind_some hx
        obtain ⟨_, hroom, hx⟩ := hx
        obtain ⟨e, e'⟩ := castL_ok hxs
        subst e
        subst e'
        cases hx
        have h2' := RV.step hst _ _ h2
        simp only [RV] at h2'
        obtain ⟨A, k, e1, hs, hfull⟩ := h2'
        have hk' := hfull (by simp)
        subst hk'
        exact main xs' A _ none true (pubS s O ys.2) e1 (.inr ⟨rfl, rfl, hs⟩) (room_some hroom) hrel (freeN_one hf) (fun g hg => by cases hg) rfl rfl
      · rename_i l
        split at hx
        · rename_i E' xs fl ho
          replace hx := bind_some hx
          obtain ⟨xs', hxs, hx⟩ := hx
          replace hx := bind_some hx
          obtain ⟨_, hroom, hx⟩ := hx
          obtain ⟨e, e'⟩ := castL_ok hxs
          subst e
          subst e'
          cases hel : ys.2.elem l with
          | true => rw [hel] at hx; cases hx
          | false =>
            rw [hel] at hx
            cases hx
            have hnl : l ∉ ys.2 := by simpa using hel
            have hol : (pubS s O ys.2).O l = some (some (.row E' xs' fl)) := (hold l hnl).trans (hO0 _ _ ho)
            obtain ⟨A, k, ow, k1, k2⟩ := hrel.objs l _ hol
            simp only [RV] at h2
            obtain ⟨pl, k3, e1⟩ := h2
            rw [k1] at k3
            cases k3
            have hkill := hrel.kill (l := l) ⟨_, hol⟩
            have hO1 : (setO (pubS s O ys.2) l none).O = apU s.O (pubU O ys.2 ++ [(l, none)]) := by
              simp only [apU_app, apU, setO, pubS]
            refine main xs' A k ow fl (setO (pubS s O ys.2) l none) e1 k2 (room_some hroom) hkill (by rw [hO1]; exact freeN_one hf) (fun g hg => ⟨hrel.mine l _ g ⟨_, hol⟩ k1 hg, fun l' p' ⟨o, ho'⟩ hc hw => ?_⟩) ?_ rfl
            · rcases upF_some ho' with ⟨_, e⟩ | ⟨e, h'⟩
              · cases e
              · exact e (hrel.inj l' l _ _ g ⟨o, h'⟩ ⟨_, hol⟩ hc k1 hw hg)
            · simp only [apE, addO, apU_app, apU, setO, pubS]
        · cases hx
      · cases hx
    · cases hx
  · rename_i f args ats
    replace hx := bind_some hx
    obtain ⟨ps, hps, hx⟩ := hx
    obtain ⟨h1, h2⟩ := evs_ok hG hps
    have hc := hd.ok _ _ _ _ _ hx X c σ s n F _ hX hO0 h h2 hf
    have e : args = args.toList.toArray := by simp
    rw [e]
    refine wp_enterS rfl hc (run_call h1 σ.w) fun v τ hst ⟨c', k1, k2, k3⟩ => hk v τ c' k1 k2 k3 hst
  · rename_i t args ats
    replace hx := bind_some hx
    obtain ⟨p, hp, hx⟩ := hx
    obtain ⟨h0, h0'⟩ := E1 hp
    have e : args = args.toList.toArray := by simp
    split at hx
    · rename_i f ls
      replace hx := bind_some hx
      obtain ⟨ps, hps, hx⟩ := hx
      obtain ⟨h1, h2⟩ := evs_ok hG hps
      simp only [RV] at h0'
      obtain ⟨cs, e1, h3⟩ := h0'
      have hc := hd.ok _ _ _ _ _ hx X c σ s n F _ hX hO0 h (RVs.app _ _ _ _ h2 h3) hf
      rw [e]
      exact wp_enterS rfl hc (by have := run_callv (P := P) (d := d) (ats := ats) (ty := ty) (pos := pos) (aft := aft) (as := []) h1 h0 e1 σ.w; simpa using this) fun v τ hst ⟨c', k1, k2, k3⟩ => hk v τ c' k1 k2 k3 hst
    · rename_i ks rs g
      replace hx := bind_some hx
      obtain ⟨ps, hps, hx⟩ := hx
      replace hx := bind_some hx
      obtain ⟨q, hq, hx⟩ := hx
      replace hx := bind_some hx
      obtain ⟨r, hr, hx⟩ := hx
      cases hx
      obtain ⟨h1, h2⟩ := evs_ok hG hps
      refine hpub q.2 fun τ hw hst hrel hS hR hGt hold => ?_
      have hDV := getKds_ok ht hS (ls := q.2) hq (fun l hl => hl) (RVs.step hst _ _ h2)
      have h0t := RV.step hst _ _ h0'
      simp only [RV] at h0t
      obtain ⟨f, as, cs, e1, hfn⟩ := h0t
      have hc := hfn.2.2 τ (Stp.refl _ _) q.1 _ r hDV hr
      rw [hX] at hc
      rw [e]
      refine wp_enterS rfl hc (run_callv h1 h0 e1 τ.w) fun v υ hst2 ⟨ws, e2, hws⟩ => ?_
      subst e2
      exact hk _ υ c (Cx.le_refl c) (hrel.step hst2) (retP_ok (pvT_ok ht hws (fun i pl h => by simp at h)).1) (hst.trans hst2.no)
    · cases hx
  · cases hx
end
end Go.Qx
