/- Keys put in order by the library's sort, and keys inserted one after the other: one map. No program in sight. -/
import Derived.Test.YtdipagkcdpcnbaaGreatRDraw
import Derived.Test.YtdipagkcdpcnbaaGreatQSort
namespace Go.Pl
open Go Go.RowKit Go.Sx Go.Qx

theorem cS_eq {a b : ByteArray} (h : cS a b = 0) : a = b := by
  rcases cBs_tells a.data.toList b.data.toList with ⟨_, e, _⟩ | ⟨_, _, e⟩ | ⟨_, e, _⟩
  · have : cS a b = -1 := e
    omega
  · exact ByteArray.ext (Array.toList_inj.1 e)
  · have : cS a b = 1 := e
    omega
theorem cK_eq {a b : Key} (h : cK a b = 0) : a = b := by
  obtain ⟨k, t⟩ := a
  obtain ⟨k2, t2⟩ := b
  unfold cK tn at h
  simp only at h
  rcases cI_cases k k2 with ⟨_, e⟩ | ⟨_, e⟩ | ⟨p, e⟩
  · rw [e] at h; simp at h
  · rw [e] at h; simp at h
  · rw [e, if_pos rfl] at h
    rw [p, cS_eq h]
theorem cK_trans (a b c : Key) (h1 : cK a b ≤ 0) (h2 : cK b c ≤ 0) : cK a c ≤ 0 := by rw [cK_lx] at *; exact lx_trans _ _ _ h1 h2
theorem cK_self (a : Key) : cK a a = 0 := by rw [cK_lx]; exact lx_self _
theorem cK_strict {a b c : Key} (h1 : cK a b < 0) (h2 : cK b c ≤ 0) : cK a c < 0 := by
  have h3 := cK_trans a b c (by omega) h2
  by_cases h : cK a c = 0
  · have := cK_eq h
    subst this
    have := cK_anti a b
    omega
  · omega
theorem cK_strict' {a b c : Key} (h1 : cK a b ≤ 0) (h2 : cK b c < 0) : cK a c < 0 := by
  have h3 := cK_trans a b c h1 (by omega)
  by_cases h : cK a c = 0
  · have := cK_eq h
    subst this
    have := cK_anti a b
    omega
  · omega
abbrev ltK (a b : Key) : Prop := cK a b < 0
theorem asc_pw : ∀ l : List Key, asc cK l = true ↔ l.Pairwise ltK
  | [] => by simp [asc]
  | [a] => by simp [asc]
  | a :: b :: r => by
    have ih := asc_pw (b :: r)
    simp only [asc, Bool.and_eq_true, decide_eq_true_eq]
    rw [ih, List.pairwise_cons (a := a)]
    constructor
    · intro ⟨h1, h2⟩
      refine ⟨fun x hx => ?_, h2⟩
      rcases List.mem_cons.1 hx with rfl | hx
      · exact h1
      · have := (List.pairwise_cons.1 h2).1 x hx
        exact cK_strict h1 (by unfold ltK at this; omega)
    · intro ⟨h1, h2⟩
      exact ⟨h1 b (by simp), h2⟩
theorem pw_nodup {l : List Key} (h : l.Pairwise ltK) : l.Nodup := h.imp fun {a b} h e => by
  subst e
  have := cK_self a
  unfold ltK at h
  omega
theorem nodup_pw {l : List Key} (h : l.Nodup) (hs : l.Pairwise fun a b => ¬ cK b a < 0) : l.Pairwise ltK := (List.pairwise_and_iff.2 ⟨h, hs⟩).imp fun {a b} ⟨h1, h2⟩ => by
  have := cK_anti a b
  by_cases h0 : cK a b = 0
  · exact absurd (cK_eq h0) h1
  · unfold ltK; omega

/-! ### one after the other, at the end -/
def appM (s : List Val × List Key) (x : Key × Val) : Option (List Val × List Key) :=
  if (s.2.getLast?.map fun y => keyEq y x.1) = some true then none else some (s.1 ++ [x.2], s.2 ++ [x.1])
def appIns : List (Key × Val) → List Val × List Key → Option (List Val × List Key)
  | [], s => some s
  | x :: r, s => (appM s x).bind (appIns r)
theorem appIns_ok : ∀ (xs : List (Key × Val)) (s : List Val × List Key), s.2.Pairwise ltK → (s.2 ++ xs.map (·.1)).Pairwise (fun a b => ¬ cK b a < 0) →
    ((s.2 ++ xs.map (·.1)).Nodup → appIns xs s = some (s.1 ++ xs.map (·.2), s.2 ++ xs.map (·.1))) ∧ (¬ (s.2 ++ xs.map (·.1)).Nodup → appIns xs s = none)
  | [], s, h, _ => ⟨fun _ => by simp [appIns], fun hn => absurd (by simpa using pw_nodup h) hn⟩
  | x :: r, s, h, hs => by
    have hp := List.pairwise_append.1 hs
    simp only [appIns]
    by_cases he : (s.2.getLast?.map fun y => keyEq y x.1) = some true
    · have hm : x.1 ∈ s.2 := by
        cases hg : s.2.getLast? with
        | none => rw [hg] at he; cases he
        | some y =>
          rw [hg] at he
          simp only [Option.map_some, Option.some.injEq] at he
          have := cK_eq ((keyEq_iff y x.1).1 he)
          rw [← this]
          exact List.mem_of_getLast? hg
      refine ⟨fun hn => ?_, fun _ => by rw [appM, if_pos he]; rfl⟩
      rw [List.nodup_append] at hn
      exact absurd rfl (hn.2.2 x.1 hm x.1 (by simp))
    · rw [appM, if_neg he]
      simp only [Option.bind_some]
      have hlt : (s.2 ++ [x.1]).Pairwise ltK := by
        rw [List.pairwise_append]
        refine ⟨h, List.pairwise_singleton _ _, fun a ha b hb => ?_⟩
        rw [List.mem_singleton.1 hb]
        cases hg : s.2.getLast? with
        | none => rw [List.getLast?_eq_none_iff.1 hg] at ha; cases ha
        | some y =>
          obtain ⟨ys, hys⟩ := List.getLast?_eq_some_iff.1 hg
          rw [hg] at he
          have hne : ¬ cK y x.1 = 0 := fun h0 => he (by simp [(keyEq_iff y x.1).2 h0])
          have hle := hp.2.2 y (by rw [hys]; simp) x.1 (by simp)
          have hanti := cK_anti y x.1
          have hyx : cK y x.1 < 0 := by omega
          rw [hys] at ha h
          rcases List.mem_append.1 ha with ha | ha
          · have := (List.pairwise_append.1 h).2.2 a ha y (by simp)
            exact cK_strict this (by omega)
          · rw [List.mem_singleton.1 ha]; exact hyx
      have e : s.2 ++ (x :: r).map (·.1) = (s.2 ++ [x.1]) ++ r.map (·.1) := by simp
      have e2 : s.1 ++ (x :: r).map (·.2) = (s.1 ++ [x.2]) ++ r.map (·.2) := by simp
      rw [e] at hs ⊢
      rw [e2]
      exact appIns_ok r (s.1 ++ [x.2], s.2 ++ [x.1]) hlt hs

/-! ### insertions -/
theorem insM_pairs {s t : List Val × List Key} {x : Key × Val} (h : insM s x = some t) (hl : s.1.length = s.2.length) : (t.2.zip t.1).Perm (s.2.zip s.1 ++ [x]) := by
  unfold insM at h
  split at h
  · cases h
  · cases h
    have hk := tw_len (under x.1) s.2
    have e1 : insAt (under x.1) x.1 s.2 = s.2.take (s.2.takeWhile (under x.1)).length ++ [x.1] ++ s.2.drop (s.2.takeWhile (under x.1)).length := by
      rw [take_tw, drop_tw]; rfl
    simp only
    rw [e1]
    generalize (s.2.takeWhile (under x.1)).length = n at hk
    rw [List.zip_append (by simp; omega), List.zip_append (by simp; omega)]
    have e2 : s.2.zip s.1 = (s.2.take n).zip (s.1.take n) ++ (s.2.drop n).zip (s.1.drop n) := by
      rw [← List.zip_append (by simp; omega), List.take_append_drop, List.take_append_drop]
    rw [e2, List.append_assoc, List.append_assoc]
    refine List.Perm.append_left _ ?_
    show ([x.1].zip [x.2] ++ _).Perm _
    have : [x.1].zip [x.2] = [x] := rfl
    rw [this]
    exact List.perm_append_comm
theorem insM_none {s : List Val × List Key} {x : Key × Val} (h : insM s x = none) : x.1 ∈ s.2 := by
  unfold insM at h
  split at h
  · rename_i he
    cases hg : (s.2.dropWhile (under x.1)).head? with
    | none => rw [hg] at he; cases he
    | some y =>
      rw [hg] at he
      simp only [Option.map_some, Option.some.injEq] at he
      have := cK_eq ((keyEq_iff y x.1).1 he)
      rw [← this]
      exact (List.dropWhile_sublist _).subset (List.mem_of_mem_head? hg)
  · cases h
theorem mapIns_ok : ∀ (xs : List (Key × Val)) (s : List Val × List Key), asc cK s.2 = true → s.1.length = s.2.length →
    match mapIns xs s with
    | some t => asc cK t.2 = true ∧ t.1.length = t.2.length ∧ (t.2.zip t.1).Perm (s.2.zip s.1 ++ xs)
    | none => ¬ (s.2 ++ xs.map (·.1)).Nodup
  | [], s, ha, hl => ⟨ha, hl, by simp⟩
  | x :: r, s, ha, hl => by
    simp only [mapIns]
    cases hi : insM s x with
    | none =>
      simp only [Option.bind_none]
      intro hn
      rw [List.nodup_append] at hn
      exact absurd rfl (hn.2.2 x.1 (insM_none hi) x.1 (by simp))
    | some u =>
      simp only [Option.bind_some]
      have k1 := (insM_keeps hi ha).1
      obtain ⟨l1, l2⟩ := insM_len hi hl
      have hp := insM_pairs hi hl
      have ih := mapIns_ok r u k1 l1
      have hk : u.2.Perm (s.2 ++ [x.1]) := by
        have := hp.map (·.1)
        rw [List.map_append] at this
        rwa [show (u.2.zip u.1).map (·.1) = u.2 from List.map_fst_zip (by omega), show (s.2.zip s.1).map (·.1) = s.2 from List.map_fst_zip (by omega)] at this
      cases hm : mapIns r u with
      | none =>
        rw [hm] at ih
        simp only at ih ⊢
        intro hn
        refine ih ?_
        have e : s.2 ++ (x :: r).map (·.1) = (s.2 ++ [x.1]) ++ r.map (·.1) := by simp
        rw [e] at hn
        exact ((hk.append_right _).nodup_iff).2 hn
      | some t =>
        rw [hm] at ih
        simp only at ih ⊢
        refine ⟨ih.1, ih.2.1, ih.2.2.trans ?_⟩
        have e : s.2.zip s.1 ++ x :: r = (s.2.zip s.1 ++ [x]) ++ r := by simp
        rw [e]
        exact hp.append_right _
/-- Sorted first and then put one after the other, or inserted each at its place: one outcome. -/
theorem app_is_ins {keys : List Key} {l : List Val} (hl : keys.length = l.length) {ps : List (Key × Val)} (hp : ps.Perm (keys.zip l)) (hs : (ps.map (·.1)).Pairwise fun a b => ¬ cK b a < 0) :
    appIns ps ([], []) = mapIns (keys.zip l) ([], []) := by
  have ha := appIns_ok ps ([], []) List.Pairwise.nil (by simpa using hs)
  simp only [List.nil_append] at ha
  have hm := mapIns_ok (keys.zip l) ([], []) rfl rfl
  have hk : (ps.map (·.1)).Perm keys := by
    have := hp.map (·.1)
    rwa [show (keys.zip l).map (·.1) = keys from List.map_fst_zip (by omega)] at this
  cases hc : mapIns (keys.zip l) ([], []) with
  | none =>
    rw [hc] at hm
    simp only [List.nil_append] at hm
    rw [show (keys.zip l).map (·.1) = keys from List.map_fst_zip (by omega)] at hm
    exact ha.2 fun hn => hm (hk.nodup_iff.1 hn)
  | some t =>
    rw [hc] at hm
    obtain ⟨h1, h2, h3⟩ := hm
    have h3 : (t.2.zip t.1).Perm (keys.zip l) := by simpa using h3
    have hpt : ps.Perm (t.2.zip t.1) := hp.trans h3.symm
    have ht := (asc_pw t.2).1 h1
    have e1 : (t.2.zip t.1).map (·.1) = t.2 := List.map_fst_zip (by omega)
    have hkt : (ps.map (·.1)).Perm t.2 := by
      have := hpt.map (·.1)
      rwa [e1] at this
    have hnd := hkt.nodup_iff.2 (pw_nodup ht)
    rw [ha.1 hnd]
    have hlt := nodup_pw hnd hs
    have w1 : ps.Pairwise fun a b => cK a.1 b.1 < 0 := List.pairwise_map.1 hlt
    have w2 : (t.2.zip t.1).Pairwise fun a b => cK a.1 b.1 < 0 := List.pairwise_map.1 (by rw [e1]; exact ht)
    have e : ps = t.2.zip t.1 := hpt.eq_of_pairwise (le := fun a b => cK a.1 b.1 < 0) (fun a b _ _ h1 h2 => by have := cK_anti a.1 b.1; omega) w1 w2
    rw [e, e1, show (t.2.zip t.1).map (·.2) = t.1 from List.map_snd_zip (by omega)]
end Go.Pl
