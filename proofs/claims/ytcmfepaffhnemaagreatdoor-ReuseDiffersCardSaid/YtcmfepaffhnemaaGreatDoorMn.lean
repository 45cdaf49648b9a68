/- Queries that bytes describe, a change, the law ReuseDiffers. -/
import Derived.Test.YtcmfepaffhnemaaGreatDoorMg
import Derived.Test.YtcmfepaffhnemaaGreatDoorMh
import Derived.Test.YtcmfepaffhnemaaGreatDoorMc
import Derived.Deep.RegionHeld3
import Derived.Test.YtcmfepaffhnemaaGreatDoorMi
import Derived.Test.YtcmfepaffhnemaaGreatDoorMk
import Derived.Test.YtcmfepaffhnemaaGreatDoorMm
set_option linter.unusedSimpArgs false
set_option linter.unusedVariables false
namespace Go.Proofs.YtcmfepaffhnemaaGreatDoor

theorem filter_range (k : Nat) : ∀ n : Nat, (List.range n).filter (fun i => decide (i = k)) = if k < n then [k] else []
  | 0 => rfl
  | n + 1 => by
    rw [List.range_succ, List.filter_append, filter_range k n]
    by_cases h : k < n
    · rw [if_pos h, if_pos (by omega), List.filter_cons, if_neg (by simp; omega)]
      rfl
    · rw [if_neg h]
      by_cases h2 : n = k
      · rw [if_pos (by omega), List.filter_cons, if_pos (by simp [h2]), h2]; rfl
      · rw [if_neg (by omega), List.filter_cons, if_neg (by simp [h2])]; rfl
theorem diffL_self' (x : List Fm) : diffL x x = [] := by
  unfold diffL
  apply List.filter_eq_nil_iff.2
  intro i _
  simp
theorem diffL_set (a : List Fm) (k : Nat) (f : Fm) (hk : k < a.length) : diffL a (a.set k f) = if a[k]? = some f then [] else [k] := by
  by_cases h : a[k]? = some f
  · rw [if_pos h]
    have e : a.set k f = a := by
      apply List.ext_getElem?
      intro i
      by_cases hi : k = i
      · subst hi; rw [List.getElem?_set_self hk, h]
      · rw [List.getElem?_set_ne hi]
    rw [e]
    exact diffL_self' a
  · rw [if_neg h]
    unfold diffL
    have e : (fun i => decide (a[i]? ≠ (a.set k f)[i]?)) = fun i => decide (i = k) := by
      funext i
      by_cases hi : k = i
      · subst hi
        rw [List.getElem?_set_self hk]
        simp [h]
      · rw [List.getElem?_set_ne hi]
        simp [Ne.symm hi]
    rw [e, filter_range, if_pos hk]
/-- A graph with another unit. -/
def Gm.put (x : Gm) (k : Nat) (f : Fm) : Gm := ⟨x.inputs, x.units.set k f, x.outputs⟩
theorem Gm.put_ok {x : Gm} (h : x.Ok) {k : Nat} {f : Fm} (hf : f.Small (x.inputs + k)) : (x.put k f).Ok := by
  refine ⟨h.i0, h.i9, by show (x.units.set k f).length ≤ 4; rw [List.length_set]; exact h.u9, h.o0, h.o9, fun j g hg => ?_, fun g hg => ?_⟩
  · show g.Small (x.inputs + j)
    have hg' : (x.units.set k f)[j]? = some g := hg
    by_cases hjk : k = j
    · subst hjk
      have hlt : k < x.units.length := by have := (List.getElem?_eq_some_iff.1 hg').1; rw [List.length_set] at this; exact this
      rw [List.getElem?_set_self hlt] at hg'
      injection hg' with e
      rw [← e]; exact hf
    · rw [List.getElem?_set_ne hjk] at hg'
      exact h.us j g hg'
  · have := h.os g hg
    show g.Small (x.inputs + (x.units.set k f).length)
    rw [List.length_set]; exact this
theorem diffG_put (x : Gm) (k : Nat) (f : Fm) (hk : k < x.units.length) : diffG x (x.put k f) = (if x.units[k]? = some f then [] else [k], [], 0) := by
  unfold diffG
  rw [if_pos ⟨rfl, by show x.units.length = (x.units.set k f).length; rw [List.length_set], rfl⟩]
  show (diffL x.units (x.units.set k f), diffL x.outputs x.outputs, 0) = _
  rw [diffL_set x.units k f hk, diffL_self']
theorem put_eq (x : Gm) (k : Nat) (f : Fm) (hk : k < x.units.length) : (x = x.put k f) ↔ x.units[k]? = some f := by
  obtain ⟨i, u, o⟩ := x
  unfold Gm.put
  simp only [Gm.mk.injEq, true_and, and_true]
  constructor
  · intro h
    rw [h, List.getElem?_set_self hk]
  · intro h
    apply List.ext_getElem?
    intro j
    by_cases hj : k = j
    · subst hj; rw [List.getElem?_set_self hk, h]
    · rw [List.getElem?_set_ne hj]
end Go.Proofs.YtcmfepaffhnemaaGreatDoor

set_option linter.unusedVariables false
namespace Go.Proofs.YtcmfepaffhnemaaGreatDoor

/-- A number without its sign. -/
def Q.abs (q : Q) : Q := ⟨false, q.num, q.den⟩
/-- n bounds: the lower ones, the upper ones. -/
def boxQ : Nat → List Nat → (List Q × List Q) × List Nat
  | 0, r => (([], []), r)
  | n + 1, r => (((numQ r).1 :: (boxQ n (numQ (numQ r).2).2).1.1, Q.add (numQ r).1 (numQ (numQ r).2).1.abs :: (boxQ n (numQ (numQ r).2).2).1.2), (boxQ n (numQ (numQ r).2).2).2)
theorem boxQ_succ (n : Nat) (r : List Nat) : boxQ (n + 1) r = (((numQ r).1 :: (boxQ n (numQ (numQ r).2).2).1.1, Q.add (numQ r).1 (numQ (numQ r).2).1.abs :: (boxQ n (numQ (numQ r).2).2).1.2), (boxQ n (numQ (numQ r).2).2).2) := rfl
structure Rgm where
  lo : List Q
  hi : List Q
  rows : List Fm
def regionQ (n : Nat) (r : List Nat) : Rgm × List Nat :=
  (⟨(boxQ n r).1.1, (boxQ n r).1.2, (outsQ (nx 3 (boxQ n r).2).1 n (nx 3 (boxQ n r).2).2).1⟩, (outsQ (nx 3 (boxQ n r).2).1 n (nx 3 (boxQ n r).2).2).2)
/-- A query. -/
structure Qr where
  g : Gm
  rg : Rgm
  goal : Fm
def queryQ (r : List Nat) : Qr × List Nat :=
  (⟨(graphQ r).1, (regionQ (graphQ r).1.inputs (graphQ r).2).1, (formQ ((graphQ r).1.inputs + (graphQ r).1.units.length) (regionQ (graphQ r).1.inputs (graphQ r).2).2).1⟩, (formQ ((graphQ r).1.inputs + (graphQ r).1.units.length) (regionQ (graphQ r).1.inputs (graphQ r).2).2).2)
/-- What Changed makes of a query. -/
def changedQ (q : Qr) (r : List Nat) : Qr :=
  if (nx (q.g.units.length + 1) r).1 = q.g.units.length then ⟨q.g, q.rg, Fm.addR q.goal (Fm.scaleR (formQ q.g.inputs (nx (q.g.units.length + 1) r).2).1 (numQ (formQ q.g.inputs (nx (q.g.units.length + 1) r).2).2).1)⟩
  else ⟨q.g.put (nx (q.g.units.length + 1) r).1 (formQ (q.g.inputs + (nx (q.g.units.length + 1) r).1) (nx (q.g.units.length + 1) r).2).1, q.rg, q.goal⟩

/-! Numbers in sixteenths. -/
/-- At most m sixteenths. -/
structure Q.Dy (q : Q) (m : Nat) : Prop where
  ok : q.Ok
  un : q.un ∣ 16
  num : q.num * 16 ≤ m * q.un
theorem Q.Dy.up {q : Q} {m n : Nat} (h : q.Dy m) (hm : m ≤ n) : q.Dy n := ⟨h.ok, h.un, Nat.le_trans h.num (Nat.mul_le_mul_right _ hm)⟩
theorem quot_dy (s : Bool) {n d k m : Nat} (hd : 0 < d) (h : n * 16 = d * k) (hk : k ≤ m) : (quot s n d).Dy m := by
  refine ⟨quot_ok s n hd, ?_, ?_⟩
  · unfold quot
    split
    · exact ⟨16, by decide⟩
    · rename_i h0
      have hg := Nat.gcd_pos_of_pos_left d (Nat.pos_of_ne_zero h0)
      have hd2 : 0 < d / Nat.gcd n d := Nat.div_pos (Nat.le_of_dvd hd (Nat.gcd_dvd_right ..)) hg
      rw [den0_un _ _ _ hd2]
      have hc : Nat.Coprime (d / Nat.gcd n d) (n / Nat.gcd n d) := (Nat.gcd_div_gcd_div_gcd_of_pos_left (Nat.pos_of_ne_zero h0) : Nat.gcd _ _ = 1) |> fun e => by unfold Nat.Coprime; rw [Nat.gcd_comm]; exact e
      refine hc.dvd_of_dvd_mul_left ⟨k, ?_⟩
      apply Nat.eq_of_mul_eq_mul_left hg
      rw [← Nat.mul_assoc, ← Nat.mul_assoc, Nat.mul_div_cancel' (Nat.gcd_dvd_left ..), Nat.mul_div_cancel' (Nat.gcd_dvd_right ..)]
      exact h
  · unfold quot
    split
    · exact Nat.zero_le _
    · rename_i h0
      have hg := Nat.gcd_pos_of_pos_left d (Nat.pos_of_ne_zero h0)
      have hd2 : 0 < d / Nat.gcd n d := Nat.div_pos (Nat.le_of_dvd hd (Nat.gcd_dvd_right ..)) hg
      rw [den0_un _ _ _ hd2]
      have e : n / Nat.gcd n d * 16 = d / Nat.gcd n d * k := by
        apply Nat.eq_of_mul_eq_mul_left hg
        rw [← Nat.mul_assoc, ← Nat.mul_assoc, Nat.mul_div_cancel' (Nat.gcd_dvd_left ..), Nat.mul_div_cancel' (Nat.gcd_dvd_right ..)]
        exact h
      show n / Nat.gcd n d * 16 ≤ _
      rw [e, Nat.mul_comm]
      exact Nat.mul_le_mul_right _ hk
theorem Q.Dy.add {a b : Q} {m n : Nat} (ha : a.Dy m) (hb : b.Dy n) : (Q.add a b).Dy (m + n) := by
  obtain ⟨α, hα⟩ := ha.un
  obtain ⟨β, hβ⟩ := hb.un
  have h1 : a.num * α ≤ m := by
    have := ha.num
    rw [hα, Nat.mul_comm a.un α, ← Nat.mul_assoc] at this
    exact Nat.le_of_mul_le_mul_right this a.un_pos
  have h2 : b.num * β ≤ n := by
    have := hb.num
    rw [hβ, Nat.mul_comm b.un β, ← Nat.mul_assoc] at this
    exact Nat.le_of_mul_le_mul_right this b.un_pos
  have e1 : a.num * b.un * 16 = a.un * b.un * (a.num * α) := by
    rw [hα]
    simp only [Nat.mul_comm, Nat.mul_left_comm, Nat.mul_assoc]
  have e2 : b.num * a.un * 16 = a.un * b.un * (b.num * β) := by
    rw [hβ]
    simp only [Nat.mul_comm, Nat.mul_left_comm, Nat.mul_assoc]
  have hd : 0 < a.un * b.un := Nat.mul_pos a.un_pos b.un_pos
  unfold Q.add sadd
  simp only
  generalize a.num * b.un = X at *
  generalize b.num * a.un = Y at *
  generalize a.num * α = A at *
  generalize b.num * β = B at *
  split
  · exact quot_dy _ hd (k := A + B) (by simp only; rw [Nat.add_mul, Nat.mul_add, e1, e2]) (by omega)
  · split
    · exact quot_dy _ hd (k := B - A) (by simp only; rw [Nat.sub_mul, Nat.mul_sub, e1, e2]) (by omega)
    · exact quot_dy _ hd (k := A - B) (by simp only; rw [Nat.sub_mul, Nat.mul_sub, e1, e2]) (by omega)
/-- A number of the feed. -/
structure Q.Qt (q : Q) : Prop where
  ok : q.Ok
  un : q.un ∣ 4
  num : q.num ≤ 4
theorem frac_qt : ∀ a, a < 9 → ∀ b, b < 4 → (fracQ ((a : Nat) - 4) (denN b)).Ok ∧ 4 % (fracQ ((a : Nat) - 4) (denN b)).un = 0 ∧ (fracQ ((a : Nat) - 4) (denN b)).num ≤ 4 := by decide
theorem numQ_qt (r : List Nat) : (numQ r).1.Qt := by
  obtain ⟨h1, h2, h3⟩ := frac_qt _ (nx_lt (n := 9) (by decide) r) _ (nx_lt (n := 4) (by decide) (nx 9 r).2)
  exact ⟨h1, Nat.dvd_of_mod_eq_zero h2, h3⟩
theorem Q.Qt.dy {q : Q} (h : q.Qt) : q.Dy 64 := ⟨h.ok, Nat.dvd_trans h.un ⟨4, by decide⟩, by have := h.num; have := q.un_pos; omega⟩
theorem Q.Qt.mul {a b : Q} (ha : a.Qt) (hb : b.Qt) : (Q.mul a b).Dy 256 := by
  obtain ⟨α, hα⟩ := ha.un
  obtain ⟨β, hβ⟩ := hb.un
  have e : 16 = a.un * b.un * (α * β) := by
    rw [show (16 : Nat) = 4 * 4 from rfl]
    rw (config := {occs := .pos [1]}) [hα]
    rw [hβ]
    simp only [Nat.mul_comm, Nat.mul_left_comm, Nat.mul_assoc]
  have h9 : α * β ≤ 16 := by
    rw [e]
    exact Nat.le_mul_of_pos_left _ (Nat.mul_pos a.un_pos b.un_pos)
  unfold Q.mul
  refine quot_dy _ (Nat.mul_pos a.un_pos b.un_pos) (k := a.num * b.num * (α * β)) ?_ ?_
  · rw [show a.num * b.num * 16 = a.num * b.num * (a.un * b.un * (α * β)) by rw [← e]]
    simp only [Nat.mul_comm, Nat.mul_left_comm, Nat.mul_assoc]
  · exact Nat.mul_le_mul (Nat.mul_le_mul ha.num hb.num) h9
theorem Q.Dy.sm {q : Q} {m : Nat} (h : q.Dy m) (hm : m < 1000000) : q.Sm := by
  have h1 : q.un ≤ 16 := Nat.le_of_dvd (by decide) h.un
  refine ⟨?_, ?_⟩
  · have h2 := h.num
    have : m * q.un ≤ m * 16 := Nat.mul_le_mul_left _ h1
    omega
  · have : q.den ≤ q.un := by unfold Q.un; split <;> omega
    omega
theorem snoc_all {P : Q → Prop} {l : List Tm} {v : Int} {c : Q} (h : ∀ t ∈ l, P t.2) (hc : P c) : ∀ t ∈ snoc l v c, P t.2 := fun t ht => by
  unfold snoc at ht
  split at ht
  · exact h t ht
  · rcases List.mem_append.1 ht with h1 | h1
    · exact h t h1
    · rw [List.mem_singleton.1 h1]; exact hc
theorem snoc_dy {l : List Tm} {v : Int} {c : Q} {m : Nat} (h : ∀ t ∈ l, t.2.Dy m) (hc : c.Dy m) : ∀ t ∈ snoc l v c, t.2.Dy m := snoc_all (P := fun q => q.Dy m) h hc
theorem plusGo_dy {v : Int} {c : Q} {m n : Nat} (hc : c.Dy n) : ∀ (l : List Tm) (d : Bool) (acc : List Tm), (∀ t ∈ l, t.2.Dy m) → (∀ t ∈ acc, t.2.Dy (m + n)) → ∀ t ∈ plusGo v c d l acc, t.2.Dy (m + n)
  | [], d, acc, _, ha => by
    unfold plusGo
    split
    · exact ha
    · exact snoc_dy ha (by rw [canonQ_ok hc.ok]; exact hc.up (by omega))
  | t :: r, d, acc, hl, ha => by
    have ht := hl t (List.mem_cons_self ..)
    have hr := fun s hs => hl s (List.mem_cons_of_mem _ hs)
    unfold plusGo
    split
    · exact plusGo_dy hc r _ _ hr (snoc_dy ha (ht.add hc))
    · split
      · exact plusGo_dy hc r _ _ hr (snoc_dy (snoc_dy ha (by rw [canonQ_ok hc.ok]; exact hc.up (by omega))) (ht.up (by omega)))
      · exact plusGo_dy hc r _ _ hr (snoc_dy ha (ht.up (by omega)))
theorem addT_dy {n : Nat} : ∀ (y acc : List Tm) (m : Nat), (∀ t ∈ acc, t.2.Dy m) → (∀ t ∈ y, t.2.Dy n) → ∀ t ∈ addT acc y, t.2.Dy (m + n * y.length)
  | [], acc, m, h, _ => by simpa [addT] using h
  | s :: y, acc, m, h, hy => by
    unfold addT
    intro t ht
    have := addT_dy y (plusT acc s.1 s.2) (m + n) (plusGo_dy (hy s (List.mem_cons_self ..)) acc false [] h (fun t h => by cases h)) (fun t ht => hy t (List.mem_cons_of_mem _ ht)) t ht
    rw [List.length_cons, Nat.mul_add, Nat.mul_one]
    rw [show m + (n * y.length + n) = m + n + n * y.length by omega]
    exact this
theorem addT_len : ∀ (y acc : List Tm), (addT acc y).length ≤ acc.length + y.length
  | [], acc => by simp [addT]
  | s :: y, acc => by
    unfold addT
    have h1 := addT_len y (plusT acc s.1 s.2)
    have h2 : (plusT acc s.1 s.2).length ≤ acc.length + 1 := by have := plusGo_len s.1 s.2 acc false []; simpa [plusT] using this
    rw [List.length_cons]; omega
theorem scaleT_all {P : Q → Prop} {c : Q} : ∀ (y acc : List Tm), (∀ t ∈ acc, P t.2) → (∀ t ∈ y, P (Q.mul t.2 c)) → ∀ t ∈ scaleT c acc y, P t.2
  | [], acc, h, _ => by simpa [scaleT] using h
  | s :: y, acc, h, hy => by
    unfold scaleT
    exact scaleT_all y _ (snoc_all h (hy s (List.mem_cons_self ..))) fun t ht => hy t (List.mem_cons_of_mem _ ht)
theorem scaleT_len {c : Q} : ∀ (y acc : List Tm), (scaleT c acc y).length ≤ acc.length + y.length
  | [], acc => by simp [scaleT]
  | s :: y, acc => by
    unfold scaleT
    have h1 := scaleT_len (c := c) y (snoc acc s.1 (Q.mul s.2 c))
    have h2 := snoc_len acc s.1 (Q.mul s.2 c)
    rw [List.length_cons]; omega
/-- Forms of the feed. -/
structure Fm.Qt (f : Fm) (vars : Nat) : Prop where
  len : f.terms.length ≤ vars
  each : ∀ t ∈ f.terms, t.2.Qt
  const : f.const.Qt
theorem formT_qt : ∀ (n v : Nat) (ts : List Tm) (r : List Nat), (∀ t ∈ ts, t.2.Qt) → (∀ t ∈ (formT n v ts r).1, t.2.Qt) ∧ (formT n v ts r).1.length ≤ ts.length + n
  | 0, v, ts, r, h => ⟨h, Nat.le_refl _⟩
  | n + 1, v, ts, r, h => by
    unfold formT
    split
    · obtain ⟨h1, h2⟩ := formT_qt n (v + 1) (snoc ts v (numQ (nx 3 r).2).1) (numQ (nx 3 r).2).2 (snoc_all h (numQ_qt _))
      have := snoc_len ts v (numQ (nx 3 r).2).1
      exact ⟨h1, by omega⟩
    · obtain ⟨h1, h2⟩ := formT_qt n (v + 1) ts (nx 3 r).2 h
      exact ⟨h1, by omega⟩
theorem formQ_qt (vars : Nat) (r : List Nat) : (formQ vars r).1.Qt vars := by
  obtain ⟨h1, h2⟩ := formT_qt vars 0 [] (numQ r).2 (fun t h => by cases h)
  exact ⟨by simpa [formQ] using h2, h1, numQ_qt r⟩
/-- What the sum asks that Changed makes. -/
theorem chg_pre {f g : Fm} {m n : Nat} {c : Q} (hf : f.Qt m) (hg : g.Qt n) (hc : c.Qt) (hm : m ≤ 100) (hn : n ≤ 100) :
    (∀ k, k ≤ (Fm.scaleR g c).terms.length → ∀ t ∈ addT f.terms ((Fm.scaleR g c).terms.take k), Good t) ∧ (∀ t ∈ (Fm.scaleR g c).terms, Good t) ∧ Good (0, f.const) ∧ Good (0, (Fm.scaleR g c).const) ∧ f.terms.length + (Fm.scaleR g c).terms.length ≤ 900 ∧
      (∀ k, k ≤ (Fm.scaleR g c).terms.length → (addT f.terms ((Fm.scaleR g c).terms.take k)).length ≤ 900) := by
  have h1 : ∀ t ∈ (Fm.scaleR g c).terms, t.2.Dy 256 := scaleT_all (P := fun q => q.Dy 256) g.terms [] (fun t h => by cases h) fun t ht => (hg.each t ht).mul hc
  have h2 : (Fm.scaleR g c).terms.length ≤ 100 := by have := scaleT_len (c := c) g.terms []; have := hg.len; simp only [List.length_nil] at *; unfold Fm.scaleR; simp only; omega
  have h3 : f.terms.length ≤ 100 := Nat.le_trans hf.len hm
  refine ⟨fun k hk t ht => ?_, fun t ht => ⟨(h1 t ht).sm (by decide), (h1 t ht).ok⟩, ⟨hf.const.dy.sm (by decide), hf.const.ok⟩, ⟨(hg.const.mul hc).sm (by decide), (hg.const.mul hc).ok⟩, by omega, fun k hk => ?_⟩
  · have := addT_dy ((Fm.scaleR g c).terms.take k) f.terms 64 (fun t ht => (hf.each t ht).dy) (fun t ht => h1 t (List.mem_of_mem_take ht)) t ht
    refine ⟨this.sm ?_, this.ok⟩
    have : ((Fm.scaleR g c).terms.take k).length ≤ 100 := by rw [List.length_take]; omega
    omega
  · have h4 := addT_len ((Fm.scaleR g c).terms.take k) f.terms
    rw [List.length_take] at h4
    omega
theorem Fm.Qt.sm {g : Fm} {n : Nat} (hg : g.Qt n) : (∀ t ∈ g.terms, t.2.Sm) ∧ g.const.Sm := ⟨fun t ht => (hg.each t ht).dy.sm (by decide), hg.const.dy.sm (by decide)⟩

/-! The law. -/
theorem diffG_self' (x : Gm) : diffG x x = ([], [], 0) := by
  unfold diffG
  rw [if_pos ⟨rfl, rfl, rfl⟩, diffL_self', diffL_self']
theorem queryQ_ok (r : List Nat) : (queryQ r).1.g.Ok := graphQ_ok r
theorem changedQ_ok {q : Qr} (h : q.g.Ok) (r : List Nat) : (changedQ q r).g.Ok := by
  unfold changedQ
  split
  · exact h
  · exact Gm.put_ok h (formQ_small _ _)
theorem differs (q : Qr) (r : List Nat) : (diffG q.g (changedQ q r).g).2.2 = 0 ∧ (diffG q.g (changedQ q r).g).2.1 = [] ∧ (diffG q.g (changedQ q r).g).1.length ≤ 1 ∧ (decide ((diffG q.g (changedQ q r).g).1.length = 1) != decide (q.g = (changedQ q r).g)) = true := by
  have hk := nx_lt (n := q.g.units.length + 1) (by omega) r
  unfold changedQ
  split
  · rw [show (⟨q.g, q.rg, _⟩ : Qr).g = q.g from rfl, diffG_self']
    simp
  · rename_i h
    have hk2 : (nx (q.g.units.length + 1) r).1 < q.g.units.length := by omega
    show (diffG q.g (q.g.put _ _)).2.2 = 0 ∧ (diffG q.g (q.g.put _ _)).2.1 = [] ∧ (diffG q.g (q.g.put _ _)).1.length ≤ 1 ∧ (decide ((diffG q.g (q.g.put _ _)).1.length = 1) != decide (q.g = q.g.put _ _)) = true
    rw [diffG_put _ _ _ hk2]
    refine ⟨rfl, rfl, ?_, ?_⟩
    · simp only; split <;> simp
    · simp only
      by_cases h0 : q.g.units[(nx (q.g.units.length + 1) r).1]? = some (formQ (q.g.inputs + (nx (q.g.units.length + 1) r).1) (nx (q.g.units.length + 1) r).2).1
      · rw [if_pos h0, decide_eq_true ((put_eq q.g _ _ hk2).2 h0)]; rfl
      · rw [if_neg h0, decide_eq_false (fun e => h0 ((put_eq q.g _ _ hk2).1 e))]; rfl
end Go.Proofs.YtcmfepaffhnemaaGreatDoor

set_option linter.unusedVariables false
namespace Go.Proofs.YtcmfepaffhnemaaGreatDoor
open Go.RowKit

/-- Operation i waits for those of T. -/
def waitsT (T : List Nat) (ops : Array Oper) (i : Nat) : Bool := match ops[i]? with
  | none => false
  | some o => T.all fun k => k == i || o.after.any fun e => Region.binds .any e && e.on == k
section
variable {T : List Nat} {P : Program} {ops : Array Oper} {Q : Exit → Act → World → Prop} {S0 S1 : World → Prop}

def anyT (T : List Nat) (P : Program) (ops : Array Oper) (Q : Exit → Act → World → Prop) (S0 S1 : World → Prop) : Nat → Array Bool → Act → World → Prop
  | 0, l, a, w => Region.ready .any ops l = [] ∧ Q .normal a w
  | n + 1, l, a, w => (Region.ready .any ops l = [] → Q .normal a w) ∧ ∀ i ∈ Region.ready .any ops l, wpOp P ops Q i (fun a' w' => (S0 w' ∧ (S1 w → S1 w' ∨ waitsT T ops i = true)) ∧ anyT T P ops Q S0 S1 n (l.setIfInBounds i true) a' w') a w
theorem anyT.any : ∀ {n : Nat} {l : Array Bool} {a : Act} {w : World}, anyT T P ops Q S0 S1 n l a w → wpAny P .any ops Q n l a w
  | 0, _, _, _, h => h
  | n + 1, _, _, _, h => ⟨h.1, fun i hi => wpOp_mono (fun _ _ k => anyT.any k.2) (h.2 i hi)⟩
theorem anyT.first {i : Nat} {oi : Oper} {v : Value} (hi : ops[i]? = some oi) (hn : Region.noSelect ops = true) (hQ : ∀ c a w, Q (.panic c) (a.put oi.dst v) w → Q (.panic c) a w) (S : World → Prop) (hS0 : ∀ w, S w → S0 w)
    (hSS : ∀ w w' j oj, ops[j]? = some oj → j ≠ i → (∀ e ∈ oj.after, Region.binds .any e = true → e.on ≠ i) → S w → S0 w' ∧ (S1 w → S1 w' ∨ waitsT T ops j = true) → S w') :
    ∀ (n : Nat) (l : Array Bool) (a : Act) (w : World), (∀ j oj, ops[j]? = some oj → j ≠ i → l.getD j true = false → (∀ e ∈ oj.after, Region.binds .any e = true → e.on ≠ i) → oi.apart ops oj = true) →
      i ∈ Region.ready .any ops l → YieldsIf P ops S oi v a → S w → anyT T P ops Q S0 S1 n (l.setIfInBounds i true) (a.put oi.dst v) w → anyT T P ops Q S0 S1 (n + 1) l a w := by
  intro n
  induction n with
  | zero =>
    intro l a w _ hr hy hS H
    refine ⟨fun h => (by rw [h] at hr; cases hr), fun j hj => ?_⟩
    by_cases e : j = i
    · rw [e]; exact hy.wpOp hi hS ⟨⟨hS0 w hS, fun h => .inl h⟩, H⟩
    · have := ready_mono hj e
      rw [H.1] at this; cases this
  | succ n ih =>
    intro l a w hap hr hy hS H
    refine ⟨fun h => (by rw [h] at hr; cases hr), fun j hj => ?_⟩
    by_cases e : j = i
    · rw [e]; exact hy.wpOp hi hS ⟨⟨hS0 w hS, fun h => .inl h⟩, H⟩
    · have later := H.2 j (ready_mono hj e)
      obtain ⟨hun, oj, hoj, hall⟩ := mem_ready.1 hj
      have li : l.getD i true = false := (mem_ready.1 hr).1
      have hno : ∀ e ∈ oj.after, Region.binds .any e = true → e.on ≠ i := fun e he hb heq => by
        have h1 := hall e he hb
        rw [heq] at h1
        rcases Nat.lt_or_ge i l.size with h' | h'
        · simp [h'] at li h1; rw [li] at h1; cases h1
        · simp [Array.getElem?_eq_none h'] at h1
      have swapped := wpOp_putIf hoj (hap j oj hoj e hun hno) (fun cs b => Region.noSelect_spec hn i oi cs b hi) (fun cs b => Region.noSelect_spec hn j oj cs b hoj) hQ hy later
      refine wpOp_mono (fun a' w' ⟨hy', hD, H'⟩ => ?_) swapped
      refine ⟨hD, ih _ a' w' (fun k ok hk hki hl hw => hap k ok hk hki ?_ hw) (ready_mono hr (Ne.symm e)) hy' (hSS w w' j oj hoj e hno hS hD) ?_⟩
      · by_cases ejk : j = k
        · rw [← ejk]; exact hun
        · rw [getD_set_ne true ejk] at hl; exact hl
      · rw [Array.setIfInBounds_comm _ _ e]; exact H'
/-- A step: an operation that yields one value wherever S0 holds. -/
theorem anyT.takeL {i : Nat} {oi : Oper} {v : Value} {n : Nat} {listed : Array Bool} {a : Act} {w : World} {l : List Oper} (hi : l[i]? = some oi) (hs : Region.noSelect l.toArray = true) (hf : Region.free .any l.toArray listed i = true) (hr : (Region.ready .any l.toArray listed).contains i = true)
    (hQ : ∀ c a w, Q (.panic c) (a.put oi.dst v) w → Q (.panic c) a w) (hy : YieldsIf P l.toArray S0 oi v a) (hS : S0 w) (h : anyT T P l.toArray Q S0 S1 n (listed.setIfInBounds i true) (a.put oi.dst v) w) : anyT T P l.toArray Q S0 S1 (n + 1) listed a w :=
  have hi' : l.toArray[i]? = some oi := by rw [List.getElem?_toArray]; exact hi
  anyT.first hi' hs hQ S0 (fun _ h => h) (fun _ _ _ _ _ _ _ _ h => h.1) n listed a w (Region.free_spec hi' hf) (by simpa using hr) hy hS h
/-- A step: an operation of T, one value wherever S0 and S1 hold. -/
theorem anyT.takeT {i : Nat} {oi : Oper} {v : Value} {n : Nat} {listed : Array Bool} {a : Act} {w : World} {l : List Oper} (hT : T.contains i = true) (hi : l[i]? = some oi) (hs : Region.noSelect l.toArray = true) (hf : Region.free .any l.toArray listed i = true) (hr : (Region.ready .any l.toArray listed).contains i = true)
    (hQ : ∀ c a w, Q (.panic c) (a.put oi.dst v) w → Q (.panic c) a w) (hy : YieldsIf P l.toArray (fun w => S0 w ∧ S1 w) oi v a) (hS : S0 w ∧ S1 w) (h : anyT T P l.toArray Q S0 S1 n (listed.setIfInBounds i true) (a.put oi.dst v) w) : anyT T P l.toArray Q S0 S1 (n + 1) listed a w :=
  have hi' : l.toArray[i]? = some oi := by rw [List.getElem?_toArray]; exact hi
  anyT.first hi' hs hQ (fun w => S0 w ∧ S1 w) (fun _ h => h.1) (fun w w' j oj hoj e hno hS hD => ⟨hD.1, (hD.2 hS.2).elim id fun h => by
    exfalso
    unfold waitsT at h
    rw [hoj] at h
    have := List.all_eq_true.1 h i (List.contains_iff_mem.1 hT)
    rw [Bool.or_eq_true] at this
    rcases this with h1 | h1
    · exact e (by simpa using (beq_iff_eq.1 h1).symm)
    · obtain ⟨x, hx, h2⟩ := Array.any_eq_true'.1 h1
      simp only [Bool.and_eq_true, beq_iff_eq] at h2
      exact hno x hx h2.1 h2.2⟩) n listed a w (Region.free_spec hi' hf) (by simpa using hr) hy hS h
/-- A step: the only operation that may come up now. -/
theorem anyT.one {n : Nat} {listed : Array Bool} {a : Act} {w : World} {l : List Oper} (k : Nat) {o : Oper} (ho : l[k]? = some o) (hr : Region.ready .any l.toArray listed = [k]) (hw : Region.wanted o (yielded l.toArray a.tmps) = true)
    (h : ∀ K : Act → World → Prop, Shut (∀ a w', (S0 w' ∧ (S1 w → S1 w' ∨ waitsT T l.toArray k = true)) ∧ anyT T P l.toArray Q S0 S1 n (listed.setIfInBounds k true) a w' → K a w') → o.wp P a w K Q) : anyT T P l.toArray Q S0 S1 (n + 1) listed a w :=
  ⟨fun h0 => by (rw [hr] at h0; cases h0), fun i hi => by
    rw [hr] at hi
    obtain rfl := List.mem_singleton.1 hi
    unfold wpOp
    rw [List.getElem?_toArray, ho]
    simp only [hw, if_true]
    exact .inl (h _ fun _ _ h => h)⟩
theorem anyT.done {listed : Array Bool} {a : Act} {w : World} (hr : Region.ready .any ops listed = []) (h : Q .normal a w) : anyT T P ops Q S0 S1 0 listed a w := ⟨hr, h⟩
theorem wp_region_T {id : Nat} {a : Act} {w : World} (T : List Nat) (S0 S1 : World → Prop) (hm : P.follows .mixedOrders = true) (h : anyT T P ops Q S0 S1 ops.size (Array.replicate ops.size false) a w.drew) : (Code.region id ops true).wp P Q a w :=
  wp_region_any hm h.any
end
end Go.Proofs.YtcmfepaffhnemaaGreatDoor

set_option linter.unusedVariables false
namespace Go.Proofs.YtcmfepaffhnemaaGreatDoor
open Go.RowKit

attribute [local go_sem] Oper.semAt_some
set_option maxRecDepth 100000 in
set_option maxHeartbeats 4000000 in
theorem r7eqall_any (w : World) (a b : Sv) (x y : List Fm) (ha : Forms w a x) (hb : Forms w b y) :
    Calls Tryz.prog 28 #[.slice a.A a.n a.c, .slice b.A b.n b.c] w fun e w' => e = .returned (.bool (decide (x = y))) ∧ Gr w w' := by
  have hM0 : a.n ≤ 9223372036854775807 := (by obtain ⟨_, h1, _⟩ := ha; exact Nat.le_trans h1.cap h1.max)
  obtain ⟨aA, an, ac⟩ := a
  obtain ⟨bA, bn, bc⟩ := b
  have h1 : x.length = an := ha.len
  have h2 : y.length = bn := hb.len
  simp only at hM0
  by_cases hn : an = bn
  · obtain rfl : an = bn := hn
    have hnn : ((an : Int) != an) = false := by simp
    have HA := Lib.hid ha
    have HB := Lib.hid hb
    have HX := Lib.hid h1
    have HY := Lib.hid h2
    clear ha hb h1 h2
    go_enter Tryz.func28, Tryz.ntmps28
    go_wp2_with fail
    go_loopw [5] (fun i wr => ∃ k : Nat, i = .int .i64 k ∧ k ≤ an ∧ Hid (x.take k = y.take k) ∧ Hid (Gr w wr)) (fun i _ => an - (intOf i).toNat)
    case atStart => exact ⟨0, rfl, Nat.zero_le _, rfl, Gr.refl w⟩
    case round =>
      obtain ⟨k, rfl, hk, HTK, HG⟩ := hrel
      by_cases hkn : k < an
      · obtain ⟨q, hq⟩ : ∃ q, x[k]? = some q := ⟨_, List.getElem?_eq_getElem (by rw [HX.out]; exact hkn)⟩
        obtain ⟨p, hp⟩ : ∃ p, y[k]? = some p := ⟨_, List.getElem?_eq_getElem (by rw [HY.out]; exact hkn)⟩
        obtain ⟨f, ad, hf, hA, d0, d1, d2, d3⟩ := (HA.out.gr HG.out).at hq
        obtain ⟨g, bd, hg, hB, u0, u1, u2, u3⟩ := (HB.out.gr HG.out).at hp
        simp only at hA hB
        subst hA hB
        have HF := Lib.hid hf
        have HH := Lib.hid hg
        have HQ := Lib.hid hq
        have HP := Lib.hid hp
        have hm9 : k < 9223372036854775807 := Nat.lt_of_lt_of_le hkn hM0
        generalize heq : decide (q = p) = eq at *
        have HEQ := Lib.hid heq
        clear hq hp hf hg heq
        go_wp2_with fail
        go_upto_region 6 with fail
        refine wp_region_any (by kernel_rfl) ?_
        have kc := Lib.hid (fun (W' : World) (G : Gr wr.drew W') => And.intro (G.keep d0) (And.intro (G.keep d1) (And.intro (G.keep d2) (And.intro (G.keep d3) (And.intro (G.keep u0) (And.intro (G.keep u1) (And.intro (G.keep u2) (G.keep u3))))))))
        have hst : ∀ p ∈ ([(8, fun v _ => v = .bool eq)] : List (Nat × (Value → World → Prop))), ∀ (u : Value) (wA0 wB0 : World), Gr wr.drew wA0 → Gr wA0 wB0 → p.2 u wA0 → p.2 u wB0 := by
          intro p hp u wA0 wB0 h0 G h
          simp only [List.mem_cons, List.not_mem_nil, or_false] at hp
          subst hp
          · exact h
        refine wpAny_walk (m := 0) (last := #[true, true, true, true, true, true, true, true, true, true]) [0, 1, 2, 3, 4, 5, 6, 7, 8, 9] [(8, fun v _ => v = .bool eq)] (by kernel_rfl) (by decide) (by kernel_rfl) hst ?_
        clear hst
        refine Walk.take (v := ?wv1) rfl rfl (Or.inl ⟨by rfl, ?wy1⟩) ?wr1
        case wy1 => (intro w' hw'; obtain ⟨d0, d1, d2, d3, u0, u1, u2, u3⟩ := kc.out w' hw'; go_simp; try with_reducible rfl)
        try simp only [Act.put, List.setIfInBounds_toArray, List.set_cons_zero, List.set_cons_succ]
        refine Walk.take (v := ?wv2) rfl rfl (Or.inl ⟨by rfl, ?wy2⟩) ?wr2
        case wy2 => (intro w' hw'; obtain ⟨d0, d1, d2, d3, u0, u1, u2, u3⟩ := kc.out w' hw'; go_simp; try with_reducible rfl)
        try simp only [Act.put, List.setIfInBounds_toArray, List.set_cons_zero, List.set_cons_succ]
        refine Walk.take (v := ?wv3) rfl rfl (Or.inl ⟨by rfl, ?wy3⟩) ?wr3
        case wy3 => (intro w' hw'; obtain ⟨d0, d1, d2, d3, u0, u1, u2, u3⟩ := kc.out w' hw'; go_simp; try with_reducible rfl)
        try simp only [Act.put, List.setIfInBounds_toArray, List.set_cons_zero, List.set_cons_succ]
        refine Walk.take (v := ?wv4) rfl rfl (Or.inl ⟨by rfl, ?wy4⟩) ?wr4
        case wy4 => (intro w' hw'; obtain ⟨d0, d1, d2, d3, u0, u1, u2, u3⟩ := kc.out w' hw'; go_simp; try with_reducible rfl)
        try simp only [Act.put, List.setIfInBounds_toArray, List.set_cons_zero, List.set_cons_succ]
        refine Walk.take (v := ?wv5) rfl rfl (Or.inl ⟨by rfl, ?wy5⟩) ?wr5
        case wy5 => (intro w' hw'; obtain ⟨d0, d1, d2, d3, u0, u1, u2, u3⟩ := kc.out w' hw'; go_simp; try with_reducible rfl)
        try simp only [Act.put, List.setIfInBounds_toArray, List.set_cons_zero, List.set_cons_succ]
        refine Walk.take (v := ?wv6) rfl rfl (Or.inl ⟨by rfl, ?wy6⟩) ?wr6
        case wy6 => (intro w' hw'; obtain ⟨d0, d1, d2, d3, u0, u1, u2, u3⟩ := kc.out w' hw'; go_simp; try with_reducible rfl)
        try simp only [Act.put, List.setIfInBounds_toArray, List.set_cons_zero, List.set_cons_succ]
        refine Walk.take (v := ?wv7) rfl rfl (Or.inl ⟨by rfl, ?wy7⟩) ?wr7
        case wy7 => (intro w' hw'; obtain ⟨d0, d1, d2, d3, u0, u1, u2, u3⟩ := kc.out w' hw'; go_simp; try with_reducible rfl)
        try simp only [Act.put, List.setIfInBounds_toArray, List.set_cons_zero, List.set_cons_succ]
        refine Walk.take (v := ?wv8) rfl rfl (Or.inl ⟨by rfl, ?wy8⟩) ?wr8
        case wy8 => (intro w' hw'; obtain ⟨d0, d1, d2, d3, u0, u1, u2, u3⟩ := kc.out w' hw'; go_simp; try with_reducible rfl)
        try simp only [Act.put, List.setIfInBounds_toArray, List.set_cons_zero, List.set_cons_succ]
        refine Walk.do rfl rfl (by rfl) (fun W1 G1 F1 => ?ws9) (fun v hv => ?wr9)
        case ws9 =>
          obtain ⟨d0, d1, d2, d3, u0, u1, u2, u3⟩ := kc.out W1 G1
          refine doesAt_enter (f := 43) (args := #[.agg #[.slice f.terms.A f.terms.n f.terms.c, .bool f.const.neg, .slice f.const.num.A f.const.num.n f.const.num.c, .slice f.const.den.A f.const.den.n f.const.den.c], .agg #[.slice g.terms.A g.terms.n g.terms.c, .bool g.const.neg, .slice g.const.num.A g.const.num.n g.const.num.c, .slice g.const.den.A g.const.den.n g.const.den.c]]) (by go_simp; try (first | with_reducible rfl | rfl)) ?_
          refine ((show Calls _ _ _ _ (fun e w' => e = .returned (.bool eq) ∧ Gr W1 w') from by rw [← HEQ.out]; exact r7equal_any W1 f g q p (HF.out.gr G1.of_drew) (HH.out.gr G1.of_drew))).mono ?_
          rintro e w' ⟨rfl, G⟩
          exact ⟨_, rfl, G, rfl⟩
        obtain ⟨_, -, -, rfl⟩ := hv
        try simp only [Act.put, List.setIfInBounds_toArray, List.set_cons_zero, List.set_cons_succ]
        refine Walk.take (v := ?wv10) rfl rfl (Or.inl ⟨by rfl, ?wy10⟩) ?wr10
        case wy10 => (intro w' hw'; obtain ⟨d0, d1, d2, d3, u0, u1, u2, u3⟩ := kc.out w' hw'; go_simp; try with_reducible rfl)
        try simp only [Act.put, List.setIfInBounds_toArray, List.set_cons_zero, List.set_cons_succ]
        refine Walk.done (fun W1 G1 F1 => ?_)
        clear F1
        have kc1 := kc.out W1 G1
        clear kc d0 d1 d2 d3 u0 u1 u2 u3
        obtain ⟨d0, d1, d2, d3, u0, u1, u2, u3⟩ := kc1
        refine wpAny_end (by kernel_rfl) ?_
        have HG1 := Lib.hid (HG.out.trans G1.of_drew)
        clear G1 d0 d1 d2 d3 u0 u1 u2 u3
        cases eq
        · go_wp2
          go_ret
          exact ⟨by rw [decide_eq_false (fun h : x = y => of_decide_eq_false HEQ.out (by have h1 := HQ.out; have h2 := HP.out; rw [h] at h1; rw [h1] at h2; injection h2))]; rfl, HG1.out⟩
        · have HTT : Hid (x.take (k + 1) = y.take (k + 1)) := by
            rw [List.take_add_one, List.take_add_one, HTK.out, HQ.out, HP.out, of_decide_eq_true HEQ.out]
            exact rfl
          go_wp2
          go_roundw
          · exact ⟨k + 1, by go_num, by omega, HTT, HG1⟩
          · simp [intOf]; omega
      · obtain rfl : k = an := by omega
        go_wp2
        go_ret
        refine ⟨?_, HG.out⟩
        have h1 := HTK.out
        rw [List.take_of_length_le (by rw [HX.out]; exact Nat.le_refl _), List.take_of_length_le (by rw [HY.out]; exact Nat.le_refl _)] at h1
        rw [decide_eq_true h1]
        exact rfl
  · have hnn : ((an : Int) != bn) = true := by simp; omega
    have HE : Hid (decide (x = y) = false) := Lib.hid (decide_eq_false fun h => hn (by rw [← h1, ← h2, h]))
    clear ha hb h1 h2 hn hM0
    go_enter Tryz.func28, Tryz.ntmps28
    go_wp2
    go_ret
    exact ⟨by rw [HE.out]; rfl, Gr.refl w⟩
set_option maxRecDepth 100000 in
set_option maxHeartbeats 4000000 in
theorem r15equal_any (w : World) (a b : Gv) (x y : Gm) (ha : a.Is w x) (hb : b.Is w y) :
    Calls Tryz.prog 12 #[a.v, b.v] w fun e w' => e = .returned (.bool (decide (x = y))) ∧ Gr w w' := by
  have hai := ha.inputs
  have hbi := hb.inputs
  by_cases h1 : x.inputs = y.inputs
  · have e1 : (a.inputs == b.inputs) = true := by rw [hai, hbi, h1]; simp
    have HE1 := Lib.hid h1
    generalize he2 : decide (x.units = y.units) = t2
    generalize he3 : decide (x.outputs = y.outputs) = t3
    have HE2 := Lib.hid he2
    have HE3 := Lib.hid he3
    have HE : Hid (decide (x = y) = (t2 && t3)) := by
      rw [← he2, ← he3, ← Bool.decide_and]
      refine decide_eq_decide.2 ⟨fun h => by rw [h]; exact ⟨rfl, rfl⟩, fun ⟨h2, h3⟩ => ?_⟩
      obtain ⟨i, u, o⟩ := x
      obtain ⟨i', u', o'⟩ := y
      simp only at h1 h2 h3
      rw [h1, h2, h3]
    clear hai hbi h1 he2 he3
    obtain ⟨B1, B2, G⟩ := made2 w 26 26 (#[.int .i64 a.inputs, .slice a.units.A a.units.n a.units.c, .slice a.outs.A a.outs.n a.outs.c]) (#[.int .i64 b.inputs, .slice b.units.A b.units.n b.units.c, .slice b.outs.A b.outs.n b.outs.c])
    have HG := Lib.hid G
    have D_p := Lib.hid B1
    have D_q0 := Lib.hid B2
    clear G B1 B2
    have HA := Lib.hid ha
    have HB := Lib.hid hb
    clear ha hb
    obtain ⟨a0, a1, a2⟩ := D_p.out.c3
    obtain ⟨b0, b1, b2⟩ := D_q0.out.c3
    simp only [Gv.v] at *
    go_enter Tryz.func12, Tryz.ntmps12
    go_wp2_with fail
    generalize hW : (w.alloc (.cells #[.int .i64 a.inputs, .slice a.units.A a.units.n a.units.c, .slice a.outs.A a.outs.n a.outs.c] 26)).alloc (.cells #[.int .i64 b.inputs, .slice b.units.A b.units.n b.units.c, .slice b.outs.A b.outs.n b.outs.c] 26) = W at *
    clear hW
    have N_p : Hid (w.heap.size ≤ w.heap.size) := (by show w.heap.size ≤ w.heap.size; omega)
    have N_q0 : Hid (w.heap.size ≤ w.heap.size + 1) := (by show w.heap.size ≤ w.heap.size + 1; omega)
    generalize w.heap.size + 1 = q0 at *
    refine (show Calls _ _ _ _ (fun e w' => e = .returned (.bool t2) ∧ Gr W w') from by rw [← HE2.out]; exact r7eqall_any W a.units b.units x.units y.units (HA.out.units.gr HG.out) (HB.out.units.gr HG.out)).mono ?_
    rintro e w1 ⟨rfl, G1⟩
    replace HG := Lib.hid (HG.out.trans G1)
    replace D_p := Lib.hid (G1.bk D_p.out)
    replace D_q0 := Lib.hid (G1.bk D_q0.out)
    clear G1 a0 a1 a2 b0 b1 b2
    obtain ⟨a0, a1, a2⟩ := D_p.out.c3
    obtain ⟨b0, b1, b2⟩ := D_q0.out.c3
    cases t2
    · go_wp2
      go_ret
      exact ⟨by rw [HE.out]; rfl, HG.out⟩
    · go_wp2_with fail
      refine (show Calls _ _ _ _ (fun e w' => e = .returned (.bool t3) ∧ Gr w1 w') from by rw [← HE3.out]; exact r7eqall_any w1 a.outs b.outs x.outputs y.outputs (HA.out.outs.gr HG.out) (HB.out.outs.gr HG.out)).mono ?_
      rintro e w2 ⟨rfl, G1⟩
      replace HG := Lib.hid (HG.out.trans G1)
      replace D_p := Lib.hid (G1.bk D_p.out)
      replace D_q0 := Lib.hid (G1.bk D_q0.out)
      clear G1 a0 a1 a2 b0 b1 b2
      cases t3
      · go_wp2
        go_ret
        exact ⟨by rw [HE.out]; rfl, HG.out⟩
      · go_wp2
        go_ret
        exact ⟨by rw [HE.out]; rfl, HG.out⟩
  · have e1 : (a.inputs == b.inputs) = false := by rw [hai, hbi]; simp; omega
    have HE : Hid (decide (x = y) = false) := Lib.hid (decide_eq_false fun h => h1 (by rw [h]))
    clear hai hbi h1
    obtain ⟨B1, B2, G⟩ := made2 w 26 26 (#[.int .i64 a.inputs, .slice a.units.A a.units.n a.units.c, .slice a.outs.A a.outs.n a.outs.c]) (#[.int .i64 b.inputs, .slice b.units.A b.units.n b.units.c, .slice b.outs.A b.outs.n b.outs.c])
    have HG := Lib.hid G
    have D_p := Lib.hid B1
    have D_q0 := Lib.hid B2
    clear G B1 B2
    have HA := Lib.hid ha
    have HB := Lib.hid hb
    clear ha hb
    obtain ⟨a0, a1, a2⟩ := D_p.out.c3
    obtain ⟨b0, b1, b2⟩ := D_q0.out.c3
    simp only [Gv.v] at *
    go_enter Tryz.func12, Tryz.ntmps12
    go_wp2_with fail
    generalize hW : (w.alloc (.cells #[.int .i64 a.inputs, .slice a.units.A a.units.n a.units.c, .slice a.outs.A a.outs.n a.outs.c] 26)).alloc (.cells #[.int .i64 b.inputs, .slice b.units.A b.units.n b.units.c, .slice b.outs.A b.outs.n b.outs.c] 26) = W at *
    clear hW
    have N_p : Hid (w.heap.size ≤ w.heap.size) := (by show w.heap.size ≤ w.heap.size; omega)
    have N_q0 : Hid (w.heap.size ≤ w.heap.size + 1) := (by show w.heap.size ≤ w.heap.size + 1; omega)
    generalize w.heap.size + 1 = q0 at *
    go_wp2
    go_ret
    exact ⟨by rw [HE.out]; rfl, HG.out⟩
end Go.Proofs.YtcmfepaffhnemaaGreatDoor

set_option linter.unusedVariables false
namespace Go.Proofs.YtcmfepaffhnemaaGreatDoor
open Go.RowKit

attribute [local go_sem] Oper.semAt_some

theorem elemR : ElemS Tryz.prog 34 41 3 56 := elem_of (z := .agg #[.bool false, .slice none 0 0, .slice none 0 0]) (by kernel_rfl) (by kernel_rfl) rfl (by decide)
abbrev OwnR (w : World) (B : Nat) (x : Sv) (l : List Q) : Prop := Own Rv.cs (fun w r q => r.Is w q) 41 3 w B x l
theorem OwnR.step {w w' : World} {B : Nat} {x : Sv} {l : List Q} (h : OwnR w B x l) (F : Fr (fun b => (Value.slice x.A x.n x.c).ownBlock = some b) w w') : ∀ (p : Rv) (a : Q), p.Is w a → p.Is w' a := fun p a hp => by
  obtain ⟨ts, t1, _⟩ := h
  exact hp.own t1 (by decide) F
theorem OwnR.up {w w' : World} {B : Nat} {x : Sv} {l : List Q} (h : OwnR w B x l) (G : Gr w w') : OwnR w' B x l := Own.gr h (fun _ _ ha => ha.gr G) G
theorem OwnR.rats {w : World} {B : Nat} {x : Sv} {l : List Q} (h : OwnR w B x l) : Rats w x l := h.rows (by decide)
theorem OwnR.st {w w' : World} {B p t : Nat} {x : Sv} {l : List Q} {us : Array Value} (h : OwnR w B x l) (F : Fr (fun b => b = p) w w') (hb : Bk w p t us) (h0 : t ≠ 41) (h2 : t ≠ 211) : OwnR w' B x l :=
  Own.go h (fun f a ha => ha.tf' F hb h2) fun b hb' => F.keep b (h.lt b hb').2 fun e => h.ne hb h0 (e ▸ hb')
/-- A store into a row of numbers that isn't this one. -/
theorem OwnR.other {w w' : World} {B B' : Nat} {x y : Sv} {l m : List Q} (h : OwnR w B x l) (ho : OwnR w B' y m) (F : Fr (fun b => (Value.slice y.A y.n y.c).ownBlock = some b) w w') (hd : ∀ b, (Value.slice x.A x.n x.c).ownBlock = some b → (Value.slice y.A y.n y.c).ownBlock ≠ some b) : OwnR w' B x l :=
  Own.go h (ho.step F) fun b hb' => F.keep b (h.lt b hb').2 (hd b hb')
theorem OwnR.fp {w w' : World} {p B : Nat} {r : List Nat} {x : Sv} {l : List Q} (h : OwnR w B x l) (F : Fp p w w') (hd : Fd w p r) : OwnR w' B x l := by
  obtain ⟨cs, hc⟩ := hd.bk
  exact h.st F hc (by decide) (by decide)
theorem Fd.ownR {w w' : World} {p B : Nat} {r : List Nat} {x : Sv} {l : List Q} (h : Fd w p r) (ho : OwnR w B x l) (F : Fr (fun b => (Value.slice x.A x.n x.c).ownBlock = some b) w w') : Fd w' p r := by
  obtain ⟨cs, hc⟩ := h.bk
  refine h.fr F (fun e => ho.ne hc (by decide) e) fun b cs fr e hh => ?_
  obtain ⟨ts, t1, _⟩ := ho
  obtain ⟨cur, hc'⟩ := rw_bk t1 b e
  exact Bk.not_ty hc' (by decide) _ _ hh
theorem Rats.stR {w w' : World} {p t : Nat} {us : Array Value} {x : Sv} {l : List Q} (h : Rats w x l) (F : Fr (fun b => b = p) w w') (hb : Bk w p t us) (h0 : t ≠ 41) (h2 : t ≠ 211) : Rats w' x l :=
  Rows.tf h F (fun b cs fr e hh => Bk.not_ty hb h0 cs fr (e ▸ hh)) fun f a hf => hf.tf' F hb h2
theorem Rats.fp {w w' : World} {p : Nat} {r : List Nat} {x : Sv} {l : List Q} (h : Rats w x l) (F : Fp p w w') (hd : Fd w p r) : Rats w' x l := by
  obtain ⟨cs, hc⟩ := hd.bk
  exact h.stR F hc (by decide) (by decide)
theorem Rats.ownF {w w' : World} {B : Nat} {x y : Sv} {l : List Q} {m : List Fm} (h : Rats w x l) (ho : OwnF w B y m) (F : Fr (fun b => (Value.slice y.A y.n y.c).ownBlock = some b) w w') : Rats w' x l := by
  obtain ⟨ts, t1, _⟩ := ho
  refine Rows.tf h F (fun b cs fr e hh => ?_) fun f a hf => hf.own t1 (by decide) F
  obtain ⟨cur, hc'⟩ := rw_bk t1 b e
  exact Bk.not_ty hc' (by decide) _ _ hh
/-- As app1, with the block of what comes. -/
theorem Own.app2 {α β : Type} {cs : β → List Value} {Is : World → β → α → Prop} {e k : Nat} {w : World} {B : Nat} {x : Sv} {xs : List α} {P : Program} {t bytes : Nat} (h : ElemS P t e k bytes) {o : Oper} {a : Act} {K : Act → World → Prop} {Q : Exit → Act → World → Prop} (s xo : Operand) (ho : o.op = .call { callee := .builtin .append, args := #[s, xo], argTypes := #[t, t] }) (hs : a.eval s = x.v) (hz : Own cs Is e k w B x xs) (ad : Addr) (c : Nat) (b : β) (u : α)
    (hx : a.eval xo = .slice (some ad) 1 c) (hb : Is w b u) (hlen : (cs b).length = k) (hcell : ∀ j v, (cs b)[j]? = some v → w.cell? (ad.add j) = some v) (h1 : ∀ v ∈ cs b, v.oneCell' = true) (h63 : x.n + 1 ≤ maxLen) (hbytes : (x.n + 1) * bytes ≤ 140737488355328) (hB : B ≤ w.heap.size) (hI : ∀ w', Fr (fun b => (Value.slice x.A x.n x.c).ownBlock = some b) w w' → ∀ p a, Is w p a → Is w' p a)
    (hK : ∀ (y : Sv) (w' : World), y.n = x.n + 1 → Own cs Is e k w' B y (xs ++ [u]) → Fr (fun b => (Value.slice x.A x.n x.c).ownBlock = some b) w w' → ((Value.slice y.A y.n y.c).ownBlock = (Value.slice x.A x.n x.c).ownBlock ∨ (Value.slice y.A y.n y.c).ownBlock = some w.heap.size) → K (a.put o.dst y.v) w') : o.wp P a w K Q := by
  obtain ⟨i, z, hi, hzz, hsz, hby, hzs⟩ := h.hi
  have hz' := hz
  obtain ⟨ts, t1, t2, t3⟩ := hz'
  obtain ⟨v', w', hrun, h2, h3, _, h5⟩ := run_append_own_at (P := P) w B t o.type e i z k bytes h.ht hi hzz hsz hby hzs h.pos _ x.n _ t1 ad 1 c (cs b) (by rw [hlen, Nat.one_mul]) hcell h1 h63 hbytes hB
  have F := fr_own0 h3
  obtain ⟨y, rfl, hyn, hy⟩ := hz.push ts t2 t3 hb h2 (hI w' F)
  unfold Oper.wp execOp
  simp only [ho, resolve, invoke, builtin, Sem.run_bind, Sem.run_pure, Result.andThen_ok, List.map_toArray, List.map_cons, List.map_nil, hs, hx, hrun]
  exact hK y w' hyn hy F h5
/-- A region in slots. -/
structure Rgv where
  lo : Sv
  hi : Sv
  rows : Sv
abbrev Rgv.v (g : Rgv) : Value := .agg #[.slice g.lo.A g.lo.n g.lo.c, .slice g.hi.A g.hi.n g.hi.c, .slice g.rows.A g.rows.n g.rows.c]
structure Rgv.Is (w : World) (g : Rgv) (x : Rgm) : Prop where
  lo : Rats w g.lo x.lo
  hi : Rats w g.hi x.hi
  rows : Forms w g.rows x.rows
theorem Rgv.Is.gr {w w' : World} {g : Rgv} {x : Rgm} (h : g.Is w x) (G : Gr w w') : g.Is w' x := ⟨h.lo.gr G, h.hi.gr G, h.rows.gr G⟩
theorem Rgv.Is.st {w w' : World} {p t : Nat} {us : Array Value} {g : Rgv} {x : Rgm} (h : g.Is w x) (F : Fr (fun b => b = p) w w') (hb : Bk w p t us) (h0 : t ≠ 41) (h1 : t ≠ 43) (h2 : t ≠ 104) (h3 : t ≠ 211) : g.Is w' x :=
  ⟨h.lo.stR F hb h0 h3, h.hi.stR F hb h0 h3, h.rows.st F hb h1 h2 h3⟩
theorem Forms.fp {w w' : World} {p : Nat} {r : List Nat} {x : Sv} {l : List Fm} (h : Forms w x l) (F : Fp p w w') (hd : Fd w p r) : Forms w' x l := by
  obtain ⟨cs, hc⟩ := hd.bk
  exact h.st F hc (by decide) (by decide) (by decide)
theorem Rgv.Is.fp {w w' : World} {p : Nat} {r : List Nat} {g : Rgv} {x : Rgm} (h : g.Is w x) (F : Fp p w w') (hd : Fd w p r) : g.Is w' x := ⟨h.lo.fp F hd, h.hi.fp F hd, h.rows.fp F hd⟩
theorem Gv.Is.fp {w w' : World} {p : Nat} {r : List Nat} {g : Gv} {x : Gm} (h : g.Is w x) (F : Fp p w w') (hd : Fd w p r) : g.Is w' x := ⟨h.inputs, h.units.fp F hd, h.outs.fp F hd⟩
theorem Gv.Is.st {w w' : World} {p t : Nat} {us : Array Value} {g : Gv} {x : Gm} (h : g.Is w x) (F : Fr (fun b => b = p) w w') (hb : Bk w p t us) (h1 : t ≠ 43) (h2 : t ≠ 104) (h3 : t ≠ 211) : g.Is w' x := ⟨h.inputs, h.units.st F hb h1 h2 h3, h.outs.st F hb h1 h2 h3⟩

theorem abs_ok {q : Q} (h : q.Ok) : q.abs.Ok := ⟨h.one, h.cop, fun h0 => ⟨rfl, (h.pos h0).2⟩⟩
set_option maxRecDepth 100000 in
set_option maxHeartbeats 4000000 in
theorem region_any (w : World) (p n : Nat) (r : List Nat) (hf : Fd w p r) (hn : n ≤ 100) :
    Calls Tryz.prog 44 #[.pointer (some ⟨p, 0, none⟩), .int .i64 n] w fun e w' => ∃ g : Rgv, e = .returned g.v ∧ g.Is w' (regionQ n r).1 ∧ Fd w' p (regionQ n r).2 ∧ Fp p w w' := by
  obtain ⟨B1, B2, G⟩ := made2 w 36 36 (#[.slice none 0 0, .slice none 0 0, .slice none 0 0]) (#[.slice none 0 0, .slice none 0 0, .slice none 0 0])
  have HG := Lib.hid G
  have D_r := Lib.hid B1
  have D_g := Lib.hid B2
  clear G B1 B2
  have HFD := Lib.hid hf
  clear hf
  have hgr : Hid (¬ w.heap.size + 1 = w.heap.size) := (fun e => by omega)
  go_enter Tryz.func44, Tryz.ntmps44
  go_wp2_with fail
  generalize hW : (w.alloc (.cells #[.slice none 0 0, .slice none 0 0, .slice none 0 0] 36)).alloc (.cells #[.slice none 0 0, .slice none 0 0, .slice none 0 0] 36) = W at *
  clear hW
  have N_r : Hid (w.heap.size ≤ w.heap.size) := (by show w.heap.size ≤ w.heap.size; omega)
  have N_g : Hid (w.heap.size ≤ w.heap.size + 1) := (by show w.heap.size ≤ w.heap.size + 1; omega)
  generalize w.heap.size + 1 = g at *
  have HPW : Hid (Fp p w W) := Lib.hid HG.out.fp
  go_loopw [6] (fun i wr => ∃ (j : Nat) (zl zh : Sv) (L H : List Q) (rr : List Nat), i = .int .i64 j ∧ j ≤ n ∧ Hid (OwnR wr W.heap.size zl L) ∧ Hid (OwnR wr W.heap.size zh H) ∧ Hid (∀ b, (Value.slice zl.A zl.n zl.c).ownBlock = some b → (Value.slice zh.A zh.n zh.c).ownBlock ≠ some b) ∧ Hid (L ++ (boxQ (n - j) rr).1.1 = (boxQ n r).1.1) ∧ Hid (H ++ (boxQ (n - j) rr).1.2 = (boxQ n r).1.2) ∧ Hid ((boxQ (n - j) rr).2 = (boxQ n r).2) ∧ Hid (L.length = j) ∧ Hid (H.length = j) ∧ Hid (Fd wr p rr) ∧ Hid (Fr (fun b => b = p ∨ b = g) W wr) ∧ Hid (Bk wr g 36 #[.slice zl.A zl.n zl.c, .slice zh.A zh.n zh.c, .slice none 0 0]) ∧ Hid (Bk wr w.heap.size 36 #[.slice none 0 0, .slice none 0 0, .slice none 0 0])) (fun i _ => n - (intOf i).toNat)
  case atStart => exact ⟨0, Sv.none, Sv.none, [], [], r, rfl, Nat.zero_le _, Own.nil _ _, Own.nil _ _, (fun b h => by cases h), rfl, rfl, rfl, rfl, rfl, Lib.hid (HFD.out.gr HG.out), Fr.refl _ _, D_g, D_r⟩
  case round =>
    obtain ⟨j, zl, zh, L, H, rr, rfl, hj, HA, HC, HDI, HE1, HE2, HE3, HAL, HBL, HD9, HP9, HG9, HR9⟩ := hrel
    clear D_g D_r
    by_cases hju : j < n
    · have HJ : Hid (n - j = n - j - 1 + 1) := (show n - j = n - j - 1 + 1 from by omega)
      have hj9 : j < 100 := by omega
      go_wp2_with fail
      refine (number_any wr p rr HD9.out).mono ?_
      rintro e w1 ⟨q1, rfl, hq1, hd1, hp1⟩
      have A_ := Lib.hid (HA.out.fp hp1 HD9.out)
      have C_ := Lib.hid (HC.out.fp hp1 HD9.out)
      have P_ := Lib.hid (HP9.out.ext hp1 (fun i _ e => .inl (.inl e)))
      have G_ := Lib.hid (HG9.out.fp hp1 HD9.out (by decide))
      have R_ := Lib.hid (HR9.out.fp hp1 HD9.out (by decide))
      have D_ := Lib.hid hd1
      have X_ := Lib.hid hq1
      clear HA HC HP9 HG9 HR9 HD9 hd1 hp1 hq1
      go_wp2_with fail
      refine (number_any w1 p _ D_.out).mono ?_
      rintro e w2 ⟨q2, rfl, hq2, hd1, hp1⟩
      obtain ⟨B1, B2, GB⟩ := made2 w2 41 41 #[.bool q1.neg, .slice q1.num.A q1.num.n q1.num.c, .slice q1.den.A q1.den.n q1.den.c] #[.bool q2.neg, .slice q2.num.A q2.num.n q2.num.c, .slice q2.den.A q2.den.n q2.den.c]
      have A9 := Lib.hid ((A_.out.fp hp1 D_.out).up GB)
      have C9 := Lib.hid ((C_.out.fp hp1 D_.out).up GB)
      have P9 := Lib.hid ((P_.out.ext hp1 (fun i _ e => .inl (.inl e))).ext GB.fr (fun _ _ h => h.elim))
      have G9 := Lib.hid (GB.bk (G_.out.fp hp1 D_.out (by decide)))
      have R9 := Lib.hid (GB.bk (R_.out.fp hp1 D_.out (by decide)))
      have X9 := Lib.hid ((X_.out.fp hp1 D_.out).gr GB)
      have D9 := Lib.hid (hd1.gr GB)
      have Y9 := Lib.hid (hq2.gr GB)
      have T9 := Lib.hid B1
      have U9 := Lib.hid B2
      have HLL : Hid (∀ b, (Value.slice zl.A zl.n zl.c).ownBlock = some b → b < w2.heap.size ∧ b < w2.heap.size + 1) := fun b h => by
        have := ((A_.out.fp hp1 D_.out).lt b h).2
        exact ⟨this, Nat.lt_succ_of_lt this⟩
      have HLL2 : Hid (∀ b, (Value.slice zh.A zh.n zh.c).ownBlock = some b → b < w2.heap.size ∧ b < w2.heap.size + 1) := fun b h => by
        have := ((C_.out.fp hp1 D_.out).lt b h).2
        exact ⟨this, Nat.lt_succ_of_lt this⟩
      have HTH : Hid (W.heap.size ≤ w2.heap.size + 1) := Nat.le_succ_of_le ((P_.out.ext hp1 (fun i _ e => .inl (.inl e))).size)
      have HNE : Hid (¬ w2.heap.size = w2.heap.size + 1) := (fun e => by omega)
      have HTG : Hid (w2.heap.size ≠ g) := fun e => Bk.ne B1 G9.out (by decide) e
      have HUG : Hid (w2.heap.size + 1 ≠ g) := fun e => Bk.ne B2 G9.out (by decide) e
      have HQ1 := Lib.hid (numQ_tiny rr)
      have HQ3 := Lib.hid (numQ_tiny (numQ rr).2)
      have HQ2 : Hid ((numQ (numQ rr).2).1.abs.Ok) := abs_ok (numQ_tiny (numQ rr).2).ok
      obtain ⟨t0, t1, t2⟩ := B1.c3
      obtain ⟨u0, u1, u2⟩ := B2.c3
      have fz := B2.frozen
      clear A_ C_ P_ G_ R_ X_ D_ hp1 hd1 hq2 B1 B2 GB
      go_upto_region 6 with fail
      generalize (w2.alloc (.cells #[.bool q1.neg, .slice q1.num.A q1.num.n q1.num.c, .slice q1.den.A q1.den.n q1.den.c] 41)).alloc (.cells #[.bool q2.neg, .slice q2.num.A q2.num.n q2.num.c, .slice q2.den.A q2.den.n q2.den.c] 41) = W5 at *
      generalize w2.heap.size + 1 = th at *
      generalize w2.heap.size = tl at *
      have F0 := (Fr.set W5 ⟨th, 0, none⟩ (.bool false) rfl : Fr (fun b => b = th) W5 _)
      have B0 := U9.out.put 0 (.bool false)
      simp only [Array.setIfInBounds, List.size_toArray, List.length_cons, List.length_nil] at B0
      have hA8 : OwnR _ _ zl L := Own.go A9.out (fun q a h => h.tf' F0 U9.out (by decide)) fun b hb => F0.keep b (A9.out.lt b hb).2 (fun e => Nat.lt_irrefl _ (e ▸ (HLL.out b hb).2))
      have hC8 : OwnR _ _ zh H := Own.go C9.out (fun q a h => h.tf' F0 U9.out (by decide)) fun b hb => F0.keep b (C9.out.lt b hb).2 (fun e => Nat.lt_irrefl _ (e ▸ (HLL2.out b hb).2))
      have A8 := Lib.hid hA8
      have C8 := Lib.hid hC8
      have P8 := Lib.hid (P9.out.ext F0 (fun i _ e => .inr (by rw [e]; exact HTH.out)))
      have G8 := Lib.hid (F0.bk G9.out (fun e => HUG.out e.symm))
      have R8 := Lib.hid (F0.bk R9.out (fun e => Bk.ne R9.out U9.out (by decide) e))
      have T8 := Lib.hid (F0.bk T9.out (fun e => HNE.out e))
      have D8 := Lib.hid (D9.out.st F0 U9.out (by decide) (by decide))
      have X8 := Lib.hid (X9.out.tf' F0 U9.out (by decide))
      have Y8 : Hid (Rv.Is _ ⟨false, q2.num, q2.den⟩ (numQ (numQ rr).2).1.abs) := ⟨rfl, (Y9.out.tf' F0 U9.out (by decide)).num, (Y9.out.tf' F0 U9.out (by decide)).den⟩
      have U8 := Lib.hid B0
      clear hA8 hC8 F0 B0 A9 C9 P9 G9 R9 X9 D9 Y9 T9 U9
      go_upto_region 7 with fail
      generalize W5.setCell ⟨th, 0, none⟩ (.bool false) = W6 at *
      have GD := (Gr.refl W6).drew
      have A0 := Lib.hid (A8.out.up GD)
      have C0 := Lib.hid (C8.out.up GD)
      have D0 := Lib.hid (D8.out.gr GD)
      have P0 := Lib.hid (P8.out.ext GD.fr (fun _ _ h => h.elim))
      have G0 := Lib.hid (GD.bk G8.out)
      have R0 := Lib.hid (GD.bk R8.out)
      have T0 := Lib.hid (GD.bk T8.out)
      have U0 := Lib.hid (GD.bk U8.out)
      have X0 := Lib.hid (X8.out.gr GD)
      have Y0 := Lib.hid (Y8.out.gr GD)
      clear A8 C8 D8 P8 G8 R8 T8 U8 X8 Y8 GD t0 t1 t2 u0 u1 u2 fz
      have hS0 : (fun W => W.cell? ⟨tl, 0, none⟩ = some (.bool q1.neg) ∧ W.cell? ⟨tl, 1, none⟩ = some (.slice q1.num.A q1.num.n q1.num.c) ∧ W.cell? ⟨tl, 2, none⟩ = some (.slice q1.den.A q1.den.n q1.den.c) ∧ W.cell? ⟨th, 0, none⟩ = some (.bool false) ∧ W.cell? ⟨th, 1, none⟩ = some (.slice q2.num.A q2.num.n q2.num.c) ∧ W.cell? ⟨th, 2, none⟩ = some (.slice q2.den.A q2.den.n q2.den.c)) W6.drew := ⟨T0.out.c3.1, T0.out.c3.2.1, T0.out.c3.2.2, U0.out.c3.1, U0.out.c3.2.1, U0.out.c3.2.2⟩
      have hS1 : (fun W => W.cell? ⟨g, 0, none⟩ = some (.slice zl.A zl.n zl.c) ∧ W.cell? ⟨g, 1, none⟩ = some (.slice zh.A zh.n zh.c) ∧ W.cell? ⟨g, 2, none⟩ = some (.slice none 0 0)) W6.drew := G0.out.c3
      refine wp_region_T [1, 6] (fun W => W.cell? ⟨tl, 0, none⟩ = some (.bool q1.neg) ∧ W.cell? ⟨tl, 1, none⟩ = some (.slice q1.num.A q1.num.n q1.num.c) ∧ W.cell? ⟨tl, 2, none⟩ = some (.slice q1.den.A q1.den.n q1.den.c) ∧ W.cell? ⟨th, 0, none⟩ = some (.bool false) ∧ W.cell? ⟨th, 1, none⟩ = some (.slice q2.num.A q2.num.n q2.num.c) ∧ W.cell? ⟨th, 2, none⟩ = some (.slice q2.den.A q2.den.n q2.den.c)) (fun W => W.cell? ⟨g, 0, none⟩ = some (.slice zl.A zl.n zl.c) ∧ W.cell? ⟨g, 1, none⟩ = some (.slice zh.A zh.n zh.c) ∧ W.cell? ⟨g, 2, none⟩ = some (.slice none 0 0)) (by kernel_rfl) ?_
      show anyT [1, 6] _ _ _ _ _ 16 _ _ _
      generalize W6.drew = v0 at *
      refine anyT.takeL (i := 0) (v := ?wv1) rfl (by kernel_rfl) (by kernel_rfl) (by kernel_rfl) (fun _ _ _ h => h) (Or.inl ⟨by rfl, ?wy1⟩) hS0 ?wr1
      case wy1 => (intro w' hS'; obtain ⟨l0, l1, l2, h0, h1, h2⟩ := hS'; go_simp; try with_reducible rfl)
      try simp only [Act.put, List.setIfInBounds_toArray, List.set_cons_zero, List.set_cons_succ]
      refine anyT.takeT (i := 1) (v := ?wv2) (by decide) rfl (by kernel_rfl) (by kernel_rfl) (by kernel_rfl) (fun _ _ _ h => h) (Or.inl ⟨by rfl, ?wy2⟩) ⟨hS0, hS1⟩ ?wr2
      case wy2 => (intro w' hS'; obtain ⟨⟨l0, l1, l2, h0, h1, h2⟩, ⟨g0, g1, g2⟩⟩ := hS'; go_simp; try with_reducible rfl)
      try simp only [Act.put, List.setIfInBounds_toArray, List.set_cons_zero, List.set_cons_succ]
      refine anyT.takeL (i := 2) (v := ?wv3) rfl (by kernel_rfl) (by kernel_rfl) (by kernel_rfl) (fun _ _ _ h => h) (Or.inl ⟨by rfl, ?wy3⟩) hS0 ?wr3
      case wy3 => (intro w' hS'; obtain ⟨l0, l1, l2, h0, h1, h2⟩ := hS'; go_simp; try with_reducible rfl)
      try simp only [Act.put, List.setIfInBounds_toArray, List.set_cons_zero, List.set_cons_succ]
      refine anyT.takeL (i := 5) (v := ?wv4) rfl (by kernel_rfl) (by kernel_rfl) (by kernel_rfl) (fun _ _ _ h => h) (Or.inl ⟨by rfl, ?wy4⟩) hS0 ?wr4
      case wy4 => (intro w' hS'; obtain ⟨l0, l1, l2, h0, h1, h2⟩ := hS'; go_simp; try with_reducible rfl)
      try simp only [Act.put, List.setIfInBounds_toArray, List.set_cons_zero, List.set_cons_succ]
      refine anyT.takeT (i := 6) (v := ?wv5) (by decide) rfl (by kernel_rfl) (by kernel_rfl) (by kernel_rfl) (fun _ _ _ h => h) (Or.inl ⟨by rfl, ?wy5⟩) ⟨hS0, hS1⟩ ?wr5
      case wy5 => (intro w' hS'; obtain ⟨⟨l0, l1, l2, h0, h1, h2⟩, ⟨g0, g1, g2⟩⟩ := hS'; go_simp; try with_reducible rfl)
      try simp only [Act.put, List.setIfInBounds_toArray, List.set_cons_zero, List.set_cons_succ]
      refine anyT.takeL (i := 7) (v := ?wv6) rfl (by kernel_rfl) (by kernel_rfl) (by kernel_rfl) (fun _ _ _ h => h) (Or.inl ⟨by rfl, ?wy6⟩) hS0 ?wr6
      case wy6 => (intro w' hS'; obtain ⟨l0, l1, l2, h0, h1, h2⟩ := hS'; go_simp; try with_reducible rfl)
      try simp only [Act.put, List.setIfInBounds_toArray, List.set_cons_zero, List.set_cons_succ]
      refine anyT.takeL (i := 8) (v := ?wv7) rfl (by kernel_rfl) (by kernel_rfl) (by kernel_rfl) (fun _ _ _ h => h) (Or.inl ⟨by rfl, ?wy7⟩) hS0 ?wr7
      case wy7 => (intro w' hS'; obtain ⟨l0, l1, l2, h0, h1, h2⟩ := hS'; go_simp; try with_reducible rfl)
      try simp only [Act.put, List.setIfInBounds_toArray, List.set_cons_zero, List.set_cons_succ]
      obtain ⟨B1, GB⟩ := made1 v0 41 #[.bool q1.neg, .slice q1.num.A q1.num.n q1.num.c, .slice q1.den.A q1.den.n q1.den.c]
      have A1 := Lib.hid (A0.out.up GB)
      have C1 := Lib.hid (C0.out.up GB)
      have D1 := Lib.hid (D0.out.gr GB)
      have P1 := Lib.hid (P0.out.ext GB.fr (fun _ _ h => h.elim))
      have G1 := Lib.hid (GB.bk G0.out)
      have R1 := Lib.hid (GB.bk R0.out)
      have T1 := Lib.hid (GB.bk T0.out)
      have U1 := Lib.hid (GB.bk U0.out)
      have X1 := Lib.hid (X0.out.gr GB)
      have Y1 := Lib.hid (Y0.out.gr GB)
      have BC := Lib.hid (bk_cells B1)
      clear A0 C0 D0 P0 G0 R0 T0 U0 X0 Y0 GB B1 hS0 hS1
      refine anyT.one 3 rfl (by kernel_rfl) (by rfl) (fun K hK => ?_)
      go_simp
      refine hK.out _ _ ⟨⟨⟨T1.out.c3.1, T1.out.c3.2.1, T1.out.c3.2.2, U1.out.c3.1, U1.out.c3.2.1, U1.out.c3.2.2⟩, fun _ => Or.inl (G1.out.c3)⟩, ?_⟩
      clear hK K
      try simp only [Act.put, List.setIfInBounds_toArray, List.set_cons_zero, List.set_cons_succ]
      generalize hw1 : v0.alloc (.cells #[.bool q1.neg, .slice q1.num.A q1.num.n q1.num.c, .slice q1.den.A q1.den.n q1.den.c] 41) = v1 at *
      clear hw1
      generalize v0.heap.size = nb at *
      have LB := Lib.hid P1.out.size
      have LZ : Hid (zl.n = j) := by rw [← HAL.out]; exact (A1.out.len Rv.len (by decide)).symm
      refine anyT.one 4 rfl (by kernel_rfl) (by rfl) (fun K hK => ?_)
      refine Own.app2 elemR _ _ (by rfl) (by rfl) A1.out ⟨nb, 0, none⟩ 1 q1 _ (by rfl) X1.out rfl BC.out (Rv.one q1) (by unfold maxLen; have := LZ.out; omega) (by have := LZ.out; omega) LB.out (fun w' F => A1.out.step F) (fun y v2 hyn hy hF hob => ?_)
      have A2 : Hid (OwnR v2 W.heap.size y (L ++ [(numQ rr).1])) := Lib.hid hy
      have C2 := Lib.hid (C1.out.other A1.out hF (fun b h e => HDI.out b e h))
      have HDI2 : Hid (∀ b, (Value.slice y.A y.n y.c).ownBlock = some b → (Value.slice zh.A zh.n zh.c).ownBlock ≠ some b) := fun b h e => by rcases hob with o | o; exact HDI.out b (o ▸ h) e; rw [h] at o; injection o with o; exact Nat.lt_irrefl _ (o ▸ (C1.out.lt b e).2)
      have D2 := Lib.hid (D1.out.ownR A1.out hF)
      have P2 := Lib.hid (P1.out.ext hF (fun i _ e => .inr (A1.out.lt i e).1))
      have G2 := Lib.hid (hF.bk G1.out (fun e => A1.out.ne G1.out (by decide) e))
      have R2 := Lib.hid (hF.bk R1.out (fun e => A1.out.ne R1.out (by decide) e))
      have T2 := Lib.hid (hF.bk T1.out (fun e => Nat.lt_irrefl _ (HLL.out tl e).1))
      have U2 := Lib.hid (hF.bk U1.out (fun e => Nat.lt_irrefl _ (HLL.out th e).2))
      have X2 := Lib.hid (A1.out.step hF _ _ X1.out)
      have Y2 := Lib.hid (A1.out.step hF _ _ Y1.out)
      clear A1 C1 D1 P1 G1 R1 T1 U1 X1 Y1 hy hF hyn hob BC LB LZ HLL HDI
      refine hK.out _ _ ⟨⟨⟨T2.out.c3.1, T2.out.c3.2.1, T2.out.c3.2.2, U2.out.c3.1, U2.out.c3.2.1, U2.out.c3.2.2⟩, fun _ => Or.inl (G2.out.c3)⟩, ?_⟩
      clear hK K
      try simp only [Act.put, List.setIfInBounds_toArray, List.set_cons_zero, List.set_cons_succ]
      refine anyT.takeL (i := 12) (v := ?wv8) rfl (by kernel_rfl) (by kernel_rfl) (by kernel_rfl) (fun _ _ _ h => h) (Or.inl ⟨by rfl, ?wy8⟩) ⟨T2.out.c3.1, T2.out.c3.2.1, T2.out.c3.2.2, U2.out.c3.1, U2.out.c3.2.1, U2.out.c3.2.2⟩ ?wr8
      case wy8 => (intro w' hS'; obtain ⟨l0, l1, l2, h0, h1, h2⟩ := hS'; go_simp; try with_reducible rfl)
      try simp only [Act.put, List.setIfInBounds_toArray, List.set_cons_zero, List.set_cons_succ]
      refine anyT.one 9 rfl (by kernel_rfl) (by rfl) (fun K hK => ?_)
      refine doesAt_wp (K := fun v W => ∃ s : Rv, v = s.v ∧ s.Is W (Q.add (numQ rr).1 (numQ (numQ rr).2).1.abs) ∧ Gr v2 W) (doesAt_enter (f := 45) (args := #[q1.v, (⟨false, q2.num, q2.den⟩ : Rv).v]) (by go_simp; try (first | with_reducible rfl | rfl)) ((r3add_any _ q1 ⟨false, q2.num, q2.den⟩ _ _ X2.out Y2.out HQ1.out.ok HQ2.out (Nat.lt_of_le_of_lt HQ1.out.num (by decide)) (Nat.lt_of_le_of_lt HQ3.out.num (by decide)) (Nat.lt_of_le_of_lt HQ1.out.den (by decide)) (Nat.lt_of_le_of_lt HQ3.out.den (by decide))).mono ?_)) ?_
      · rintro e w' ⟨s, rfl, hs, G⟩
        exact ⟨_, rfl, s, rfl, hs, G⟩
      rintro v v3 ⟨s, rfl, hs, G⟩
      have S3 := Lib.hid hs
      have A3 := Lib.hid (A2.out.up G)
      have C3 := Lib.hid (C2.out.up G)
      have D3 := Lib.hid (D2.out.gr G)
      have P3 := Lib.hid (P2.out.ext G.fr (fun _ _ h => h.elim))
      have G3 := Lib.hid (G.bk G2.out)
      have R3 := Lib.hid (G.bk R2.out)
      have T3 := Lib.hid (G.bk T2.out)
      have U3 := Lib.hid (G.bk U2.out)
      have X3 := Lib.hid (X2.out.gr G)
      have Y3 := Lib.hid (Y2.out.gr G)
      clear A2 C2 D2 P2 G2 R2 T2 U2 X2 Y2 hs G
      refine hK.out _ _ ⟨⟨⟨T3.out.c3.1, T3.out.c3.2.1, T3.out.c3.2.2, U3.out.c3.1, U3.out.c3.2.1, U3.out.c3.2.2⟩, fun _ => Or.inl (G3.out.c3)⟩, ?_⟩
      clear hK K
      try simp only [Act.put, List.setIfInBounds_toArray, List.set_cons_zero, List.set_cons_succ]
      obtain ⟨B1, GB⟩ := made1 v3 41 #[.bool s.neg, .slice s.num.A s.num.n s.num.c, .slice s.den.A s.den.n s.den.c]
      have A4 := Lib.hid (A3.out.up GB)
      have C4 := Lib.hid (C3.out.up GB)
      have D4 := Lib.hid (D3.out.gr GB)
      have P4 := Lib.hid (P3.out.ext GB.fr (fun _ _ h => h.elim))
      have G4 := Lib.hid (GB.bk G3.out)
      have R4 := Lib.hid (GB.bk R3.out)
      have T4 := Lib.hid (GB.bk T3.out)
      have U4 := Lib.hid (GB.bk U3.out)
      have X4 := Lib.hid (X3.out.gr GB)
      have Y4 := Lib.hid (Y3.out.gr GB)
      have S4 := Lib.hid (S3.out.gr GB)
      have BC := Lib.hid (bk_cells B1)
      have HLH : Hid (∀ b, (Value.slice zh.A zh.n zh.c).ownBlock = some b → b < tl ∧ b < th) := HLL2
      clear A3 C3 D3 P3 G3 R3 T3 U3 X3 Y3 S3 GB B1 HLL2
      refine anyT.one 10 rfl (by kernel_rfl) (by rfl) (fun K hK => ?_)
      go_simp
      refine hK.out _ _ ⟨⟨⟨T4.out.c3.1, T4.out.c3.2.1, T4.out.c3.2.2, U4.out.c3.1, U4.out.c3.2.1, U4.out.c3.2.2⟩, fun _ => Or.inl (G4.out.c3)⟩, ?_⟩
      clear hK K
      try simp only [Act.put, List.setIfInBounds_toArray, List.set_cons_zero, List.set_cons_succ]
      generalize hw1 : v3.alloc (.cells #[.bool s.neg, .slice s.num.A s.num.n s.num.c, .slice s.den.A s.den.n s.den.c] 41) = v4 at *
      clear hw1
      generalize v3.heap.size = nb2 at *
      have LB := Lib.hid P4.out.size
      have LZ : Hid (zh.n = j) := by rw [← HBL.out]; exact (C4.out.len Rv.len (by decide)).symm
      refine anyT.one 11 rfl (by kernel_rfl) (by rfl) (fun K hK => ?_)
      refine Own.app2 elemR _ _ (by rfl) (by rfl) C4.out ⟨nb2, 0, none⟩ 1 s _ (by rfl) S4.out rfl BC.out (Rv.one s) (by unfold maxLen; have := LZ.out; omega) (by have := LZ.out; omega) LB.out (fun w' F => C4.out.step F) (fun x v5 hyn hy hF hob => ?_)
      have C5 : Hid (OwnR v5 W.heap.size x (H ++ [Q.add (numQ rr).1 (numQ (numQ rr).2).1.abs])) := Lib.hid hy
      have A5 := Lib.hid (A4.out.other C4.out hF HDI2.out)
      have HDI3 : Hid (∀ b, (Value.slice y.A y.n y.c).ownBlock = some b → (Value.slice x.A x.n x.c).ownBlock ≠ some b) := fun b h e => by rcases hob with o | o; exact HDI2.out b h (o ▸ e); rw [e] at o; injection o with o; exact Nat.lt_irrefl _ (o ▸ (A4.out.lt b h).2)
      have D5 := Lib.hid (D4.out.ownR C4.out hF)
      have P5 := Lib.hid (P4.out.ext hF (fun i _ e => .inr (C4.out.lt i e).1))
      have G5 := Lib.hid (hF.bk G4.out (fun e => C4.out.ne G4.out (by decide) e))
      have R5 := Lib.hid (hF.bk R4.out (fun e => C4.out.ne R4.out (by decide) e))
      have T5 := Lib.hid (hF.bk T4.out (fun e => Nat.lt_irrefl _ (HLH.out tl e).1))
      have U5 := Lib.hid (hF.bk U4.out (fun e => Nat.lt_irrefl _ (HLH.out th e).2))
      clear A4 C4 D4 P4 G4 R4 T4 U4 X4 Y4 hy hF hyn hob BC LB LZ HLH S4 HDI2
      refine hK.out _ _ ⟨⟨⟨T5.out.c3.1, T5.out.c3.2.1, T5.out.c3.2.2, U5.out.c3.1, U5.out.c3.2.1, U5.out.c3.2.2⟩, fun _ => Or.inl (G5.out.c3)⟩, ?_⟩
      clear hK K
      try simp only [Act.put, List.setIfInBounds_toArray, List.set_cons_zero, List.set_cons_succ]
      have F6 := (Fr.set v5 ⟨g, 0, none⟩ (.slice y.A y.n y.c) rfl : Fr (fun b => b = g) v5 _)
      have B6 := G5.out.put 0 (.slice y.A y.n y.c)
      simp only [Array.setIfInBounds, List.size_toArray, List.length_cons, List.length_nil] at B6
      refine anyT.one 13 rfl (by kernel_rfl) (by rfl) (fun K hK => ?_)
      have fz3 := G5.out.frozen
      have g0 := G5.out.c3.1
      go_simp
      refine hK.out _ _ ⟨⟨⟨(F6.bk T5.out (fun e => HTG.out e)).c3.1, (F6.bk T5.out (fun e => HTG.out e)).c3.2.1, (F6.bk T5.out (fun e => HTG.out e)).c3.2.2, (F6.bk U5.out (fun e => HUG.out e)).c3.1, (F6.bk U5.out (fun e => HUG.out e)).c3.2.1, (F6.bk U5.out (fun e => HUG.out e)).c3.2.2⟩, fun _ => Or.inr (by kernel_rfl)⟩, ?_⟩
      clear hK K
      try simp only [Act.put, List.setIfInBounds_toArray, List.set_cons_zero, List.set_cons_succ]
      have A6 := Lib.hid (A5.out.st F6 G5.out (by decide) (by decide))
      have C6 := Lib.hid (C5.out.st F6 G5.out (by decide) (by decide))
      have D6 := Lib.hid (D5.out.st F6 G5.out (by decide) (by decide))
      have P6 := Lib.hid (P5.out.ext F6 (fun i _ e => .inl (.inr e)))
      have R6 := Lib.hid (F6.bk R5.out (fun e => hgr.out e.symm))
      have T6 := Lib.hid (F6.bk T5.out (fun e => HTG.out e))
      have U6 := Lib.hid (F6.bk U5.out (fun e => HUG.out e))
      have G6 : Hid (Bk (v5.setCell ⟨g, 0, none⟩ (.slice y.A y.n y.c)) g 36 #[.slice y.A y.n y.c, .slice zh.A zh.n zh.c, .slice none 0 0]) := Lib.hid B6
      clear F6 B6 fz3 g0 A5 C5 D5 P5 R5 T5 U5 G5
      generalize v5.setCell ⟨g, 0, none⟩ (.slice y.A y.n y.c) = v6 at *
      refine anyT.takeL (i := 14) (v := ?wv9) rfl (by kernel_rfl) (by kernel_rfl) (by kernel_rfl) (fun _ _ _ h => h) (Or.inl ⟨by rfl, ?wy9⟩) ⟨T6.out.c3.1, T6.out.c3.2.1, T6.out.c3.2.2, U6.out.c3.1, U6.out.c3.2.1, U6.out.c3.2.2⟩ ?wr9
      case wy9 => (intro w' hS'; obtain ⟨l0, l1, l2, h0, h1, h2⟩ := hS'; go_simp; try with_reducible rfl)
      try simp only [Act.put, List.setIfInBounds_toArray, List.set_cons_zero, List.set_cons_succ]
      have F7 := (Fr.set v6 ⟨g, 1, none⟩ (.slice x.A x.n x.c) rfl : Fr (fun b => b = g) v6 _)
      have B7 := G6.out.put 1 (.slice x.A x.n x.c)
      simp only [Array.setIfInBounds, List.size_toArray, List.length_cons, List.length_nil] at B7
      refine anyT.one 15 rfl (by kernel_rfl) (by rfl) (fun K hK => ?_)
      have fz3 := G6.out.frozen
      have g0 := G6.out.c3.2.1
      go_simp
      refine hK.out _ _ ⟨⟨⟨(F7.bk T6.out (fun e => HTG.out e)).c3.1, (F7.bk T6.out (fun e => HTG.out e)).c3.2.1, (F7.bk T6.out (fun e => HTG.out e)).c3.2.2, (F7.bk U6.out (fun e => HUG.out e)).c3.1, (F7.bk U6.out (fun e => HUG.out e)).c3.2.1, (F7.bk U6.out (fun e => HUG.out e)).c3.2.2⟩, fun _ => Or.inr (by kernel_rfl)⟩, ?_⟩
      clear hK K
      try simp only [Act.put, List.setIfInBounds_toArray, List.set_cons_zero, List.set_cons_succ]
      refine anyT.done (by kernel_rfl) ?_
      have A7 := Lib.hid (A6.out.st F7 G6.out (by decide) (by decide))
      have C7 := Lib.hid (C6.out.st F7 G6.out (by decide) (by decide))
      have D7 := Lib.hid (D6.out.st F7 G6.out (by decide) (by decide))
      have P7 := Lib.hid (P6.out.ext F7 (fun i _ e => .inl (.inr e)))
      have R7 := Lib.hid (F7.bk R6.out (fun e => hgr.out e.symm))
      have G7 : Hid (Bk (v6.setCell ⟨g, 1, none⟩ (.slice x.A x.n x.c)) g 36 #[.slice y.A y.n y.c, .slice x.A x.n x.c, .slice none 0 0]) := Lib.hid B7
      clear F7 B7 fz3 g0 A6 C6 D6 P6 R6 T6 U6 G6
      generalize v6.setCell ⟨g, 1, none⟩ (.slice x.A x.n x.c) = v7 at *
      go_wp2
      go_roundw
      · refine ⟨j + 1, y, x, L ++ [(numQ rr).1], H ++ [Q.add (numQ rr).1 (numQ (numQ rr).2).1.abs], (numQ (numQ rr).2).2, by go_num, by omega, A7, C7, HDI3, ?_, ?_, ?_, Lib.hid (by have := HAL.out; rw [List.length_append, this]; rfl), Lib.hid (by have := HBL.out; rw [List.length_append, this]; rfl), D7, P7, G7, R7⟩
        · show _ ++ (boxQ (n - (j + 1)) _).1.1 = _
          rw [← HE1.out, HJ.out, boxQ_succ, show n - (j + 1) = n - j - 1 from by omega, List.append_assoc]
          exact rfl
        · show _ ++ (boxQ (n - (j + 1)) _).1.2 = _
          rw [← HE2.out, HJ.out, boxQ_succ, show n - (j + 1) = n - j - 1 from by omega, List.append_assoc]
          exact rfl
        · show (boxQ (n - (j + 1)) _).2 = _
          rw [← HE3.out, HJ.out, boxQ_succ, show n - (j + 1) = n - j - 1 from by omega]
      · simp [intOf]; omega
    · obtain rfl : n = j := by omega
      have HL1 : Hid (L = (boxQ n r).1.1) := by rw [← HE1.out, Nat.sub_self]; exact (List.append_nil _).symm
      have HH1 : Hid (H = (boxQ n r).1.2) := by rw [← HE2.out, Nat.sub_self]; exact (List.append_nil _).symm
      have HR1 : Hid (rr = (boxQ n r).2) := by rw [← HE3.out, Nat.sub_self]; exact rfl
      have HLR := Lib.hid HA.out.rats
      have HHR := Lib.hid HC.out.rats
      clear HE1 HE2 HE3 HDI HAL HBL HA HC
      go_wp2_with fail
      refine (next_any wr p 3 rr HD9.out (by decide) (by decide)).mono ?_
      rintro e w4 ⟨rfl, hd1, hp1⟩
      have hm9 := nx_lt (n := 3) (by decide) rr
      generalize hx : (nx 3 rr).1 = m at *
      have HX := Lib.hid hx
      generalize hy5 : (nx 3 rr).2 = r5 at *
      have HY5 := Lib.hid hy5
      have L9 := Lib.hid (HLR.out.fp hp1 HD9.out)
      have M9 := Lib.hid (HHR.out.fp hp1 HD9.out)
      have P9 := Lib.hid (HP9.out.ext hp1 (fun i _ e => .inl (.inl e)))
      have G9 := Lib.hid (HG9.out.fp hp1 HD9.out (by decide))
      have R9 := Lib.hid (HR9.out.fp hp1 HD9.out (by decide))
      have D9 := Lib.hid hd1
      clear hx hy5 hd1 hp1 HLR HHR HP9 HG9 HR9 HD9
      go_wp2_with fail
      go_loopw [9] (fun i wr => ∃ (k : Nat) (z : Sv) (acc : List Fm) (rr : List Nat), i = .int .i64 k ∧ k ≤ m ∧ Hid (OwnF wr W.heap.size z acc) ∧ Hid (acc ++ (outsQ k n rr).1 = (outsQ m n r5).1) ∧ Hid ((outsQ k n rr).2 = (outsQ m n r5).2) ∧ Hid (acc.length + k = m) ∧ Hid (Rats wr zl L) ∧ Hid (Rats wr zh H) ∧ Hid (Fd wr p rr) ∧ Hid (Fr (fun b => b = p ∨ b = g) W wr) ∧ Hid (Bk wr g 36 #[.slice zl.A zl.n zl.c, .slice zh.A zh.n zh.c, .slice z.A z.n z.c]) ∧ Hid (Bk wr w.heap.size 36 #[.slice none 0 0, .slice none 0 0, .slice none 0 0])) (fun i _ => (intOf i).toNat)
      case atStart => exact ⟨m, Sv.none, [], r5, rfl, Nat.le_refl _, Own.nil _ _, rfl, rfl, Lib.hid (by simp), L9, M9, D9, P9, G9, R9⟩
      case round =>
        obtain ⟨k, z, acc, rr2, rfl, hk, HA, HE1, HE2, HAL, HL, HM, HD9, HP9, HG9, HR9⟩ := hrel
        clear L9 M9 P9 G9 R9 D9
        by_cases hk0 : 0 < k
        · have HJ : Hid (k = k - 1 + 1) := (show k = k - 1 + 1 from by omega)
          have hx1 : decide ((0 : Int) < (k : Int)) = true := by simp; omega
          have hw1 : IntKind.i64.wrap ((k : Int) - 1) = ((k - 1 : Nat) : Int) := by rw [IntWalk.i64_in _ (by omega)]; omega
          have D0 := Lib.hid (HD9.out.gr (Gr.refl wr).drew)
          have A0 := Lib.hid (HA.out.up (Gr.refl wr).drew)
          have L0 := Lib.hid (HL.out.gr (Gr.refl wr).drew)
          have M0 := Lib.hid (HM.out.gr (Gr.refl wr).drew)
          have P0 := Lib.hid (HP9.out.ext (Gr.refl wr).drew.fr (fun _ _ h => h.elim))
          have G0 := Lib.hid ((Gr.refl wr).drew.bk HG9.out)
          have R0 := Lib.hid ((Gr.refl wr).drew.bk HR9.out)
          clear HA HD9 HP9 HG9 HR9 HL HM
          go_wp2_with fail
          go_upto_region 11 with fail
          have hS0 : (fun W => W.cell? ⟨g, 0, none⟩ = some (.slice zl.A zl.n zl.c) ∧ W.cell? ⟨g, 1, none⟩ = some (.slice zh.A zh.n zh.c) ∧ W.cell? ⟨g, 2, none⟩ = some (.slice z.A z.n z.c)) wr.drew := G0.out.c3
          refine wp_region_E (fun W => W.cell? ⟨g, 0, none⟩ = some (.slice zl.A zl.n zl.c) ∧ W.cell? ⟨g, 1, none⟩ = some (.slice zh.A zh.n zh.c) ∧ W.cell? ⟨g, 2, none⟩ = some (.slice z.A z.n z.c)) (by kernel_rfl) ?_
          show anyE _ _ _ _ 9 _ _ _
          generalize wr.drew = v0 at *
          refine anyE.takeL (i := 0) (v := ?wv10) rfl (by kernel_rfl) (by kernel_rfl) (by kernel_rfl) (fun _ _ _ h => h) (Or.inl ⟨by rfl, ?wy10⟩) hS0 ?wr10
          case wy10 => (intro w' hS'; obtain ⟨g0, g1, g2⟩ := hS'; go_simp; try with_reducible rfl)
          try simp only [Act.put, List.setIfInBounds_toArray, List.set_cons_zero, List.set_cons_succ]
          refine anyE.takeL (i := 1) (v := ?wv11) rfl (by kernel_rfl) (by kernel_rfl) (by kernel_rfl) (fun _ _ _ h => h) (Or.inl ⟨by rfl, ?wy11⟩) hS0 ?wr11
          case wy11 => (intro w' hS'; obtain ⟨g0, g1, g2⟩ := hS'; go_simp; try with_reducible rfl)
          try simp only [Act.put, List.setIfInBounds_toArray, List.set_cons_zero, List.set_cons_succ]
          refine anyE.takeL (i := 2) (v := ?wv12) rfl (by kernel_rfl) (by kernel_rfl) (by kernel_rfl) (fun _ _ _ h => h) (Or.inl ⟨by rfl, ?wy12⟩) hS0 ?wr12
          case wy12 => (intro w' hS'; obtain ⟨g0, g1, g2⟩ := hS'; go_simp; try with_reducible rfl)
          try simp only [Act.put, List.setIfInBounds_toArray, List.set_cons_zero, List.set_cons_succ]
          refine anyE.takeL (i := 3) (v := ?wv13) rfl (by kernel_rfl) (by kernel_rfl) (by kernel_rfl) (fun _ _ _ h => h) (Or.inl ⟨by rfl, ?wy13⟩) hS0 ?wr13
          case wy13 => (intro w' hS'; obtain ⟨g0, g1, g2⟩ := hS'; go_simp; try with_reducible rfl)
          try simp only [Act.put, List.setIfInBounds_toArray, List.set_cons_zero, List.set_cons_succ]
          refine anyE.one 4 rfl (by kernel_rfl) (by rfl) (fun K hK => ?_)
          refine doesAt_wp (K := fun v W => ∃ f : Fv, v = f.v ∧ f.Is W (formQ n rr2).1 ∧ Fd W p (formQ n rr2).2 ∧ Fp p v0 W) (doesAt_enter (f := 26) (args := #[.pointer (some ⟨p, 0, none⟩), .int .i64 (n : Int)]) (by go_simp; try (first | with_reducible rfl | rfl)) ((form_any _ p n _ D0.out (by omega)).mono ?_)) ?_
          · rintro e w' ⟨f, rfl, hf, hd, hp⟩
            exact ⟨_, rfl, f, rfl, hf, hd, hp⟩
          rintro v w5 ⟨f, rfl, hf, hd, hp⟩
          have F1 := Lib.hid hf
          have D1 := Lib.hid hd
          have A1 := Lib.hid (A0.out.fp hp D0.out)
          have L1 := Lib.hid (L0.out.fp hp D0.out)
          have M1 := Lib.hid (M0.out.fp hp D0.out)
          have P1 := Lib.hid (P0.out.ext hp (fun i _ e => .inl (.inl e)))
          have G1 := Lib.hid (G0.out.fp hp D0.out (by decide))
          have R1 := Lib.hid (R0.out.fp hp D0.out (by decide))
          clear A0 L0 M0 D0 P0 G0 R0 hf hd hp hS0
          refine hK.out _ _ ⟨Or.inl (G1.out.c3), ?_⟩
          clear hK K
          try simp only [Act.put, List.setIfInBounds_toArray, List.set_cons_zero, List.set_cons_succ]
          obtain ⟨B1, GB⟩ := made1 w5 43 #[.slice f.terms.A f.terms.n f.terms.c, .bool f.const.neg, .slice f.const.num.A f.const.num.n f.const.num.c, .slice f.const.den.A f.const.den.n f.const.den.c]
          have F2 := Lib.hid (F1.out.gr GB)
          have A2 := Lib.hid (A1.out.up GB)
          have L2 := Lib.hid (L1.out.gr GB)
          have M2 := Lib.hid (M1.out.gr GB)
          have D2 := Lib.hid (D1.out.gr GB)
          have P2 := Lib.hid (P1.out.ext GB.fr (fun _ _ h => h.elim))
          have G2 := Lib.hid (GB.bk G1.out)
          have R2 := Lib.hid (GB.bk R1.out)
          have BC := Lib.hid (bk_cells B1)
          clear A1 L1 M1 D1 P1 G1 R1 GB B1 F1
          refine anyE.one 5 rfl (by kernel_rfl) (by rfl) (fun K hK => ?_)
          go_simp
          refine hK.out _ _ ⟨Or.inl (G2.out.c3), ?_⟩
          clear hK K
          try simp only [Act.put, List.setIfInBounds_toArray, List.set_cons_zero, List.set_cons_succ]
          generalize hw6 : w5.alloc (.cells #[.slice f.terms.A f.terms.n f.terms.c, .bool f.const.neg, .slice f.const.num.A f.const.num.n f.const.num.c, .slice f.const.den.A f.const.den.n f.const.den.c] 43) = w6 at *
          clear hw6
          generalize w5.heap.size = nb at *
          have LB := Lib.hid P2.out.size
          have LZ : Hid (z.n ≤ m) := by have := HAL.out; have h9 : acc.length = z.n := A2.out.len Fv.len (by decide); exact (by omega : z.n ≤ m)
          refine anyE.one 6 rfl (by kernel_rfl) (by rfl) (fun K hK => ?_)
          refine Own.app1 elemF _ _ (by rfl) (by rfl) A2.out ⟨nb, 0, none⟩ 1 f _ (by rfl) F2.out rfl BC.out (Fv.one f) (by unfold maxLen; have := LZ.out; omega) (by have := LZ.out; omega) LB.out (fun w' F => A2.out.step F) (fun y w7 hyn hy hF => ?_)
          have A3 : Hid (OwnF w7 W.heap.size y (acc ++ [(formQ n rr2).1])) := Lib.hid hy
          have L3 := Lib.hid (L2.out.ownF A2.out hF)
          have M3 := Lib.hid (M2.out.ownF A2.out hF)
          have D3 := Lib.hid (D2.out.own A2.out hF)
          have P3 := Lib.hid (P2.out.ext hF (fun i _ e => .inr (A2.out.lt i e).1))
          have G3 := Lib.hid (hF.bk G2.out (fun e => A2.out.ne G2.out (by decide) e))
          have R3 := Lib.hid (hF.bk R2.out (fun e => A2.out.ne R2.out (by decide) e))
          clear A2 L2 M2 D2 P2 G2 R2 hy hF hyn F2 BC LB LZ
          refine hK.out _ _ ⟨Or.inl (G3.out.c3), ?_⟩
          clear hK K
          try simp only [Act.put, List.setIfInBounds_toArray, List.set_cons_zero, List.set_cons_succ]
          have hS3 := G3.out.c3
          refine anyE.takeL (i := 7) (v := ?wv14) rfl (by kernel_rfl) (by kernel_rfl) (by kernel_rfl) (fun _ _ _ h => h) (Or.inl ⟨by rfl, ?wy14⟩) hS3 ?wr14
          case wy14 => (intro w' hS'; obtain ⟨g0, g1, g2⟩ := hS'; go_simp; try with_reducible rfl)
          try simp only [Act.put, List.setIfInBounds_toArray, List.set_cons_zero, List.set_cons_succ]
          clear hS3
          refine anyE.one 8 rfl (by kernel_rfl) (by rfl) (fun K hK => ?_)
          have fz3 := G3.out.frozen
          have g2 := G3.out.c3.2.2
          go_simp
          refine hK.out _ _ ⟨Or.inr (by kernel_rfl), ?_⟩
          clear hK K
          try simp only [Act.put, List.setIfInBounds_toArray, List.set_cons_zero, List.set_cons_succ]
          refine anyE.done (by kernel_rfl) ?_
          have F4 := (Fr.set w7 ⟨g, 2, none⟩ (.slice y.A y.n y.c) rfl : Fr (fun b => b = g) w7 _)
          have B4 := G3.out.put 2 (.slice y.A y.n y.c)
          have D4 := Lib.hid (D3.out.st F4 G3.out (by decide) (by decide))
          have A4 := Lib.hid (OwnF.st A3.out F4 G3.out (by decide) (by decide) (by decide))
          have L4 := Lib.hid (L3.out.stR F4 G3.out (by decide) (by decide))
          have M4 := Lib.hid (M3.out.stR F4 G3.out (by decide) (by decide))
          have P4 := Lib.hid (P3.out.ext F4 (fun i _ e => .inl (.inr e)))
          have R4 := Lib.hid (F4.bk R3.out (fun e => hgr.out e.symm))
          have G4 := Lib.hid B4
          simp only [Array.setIfInBounds, List.size_toArray, List.length_cons, List.length_nil] at G4
          clear F4 B4 g2 fz3
          generalize w7.setCell ⟨g, 2, none⟩ (.slice y.A y.n y.c) = w8 at *
          go_wp2
          go_roundw
          · refine ⟨k - 1, y, acc ++ [(formQ n rr2).1], (formQ n rr2).2, by go_num, by omega, A4, ?_, ?_, Lib.hid (by have := HAL.out; rw [List.length_append]; simp only [List.length_cons, List.length_nil]; omega), L4, M4, D4, P4, G4, R4⟩
            · show _ ++ (outsQ (k - 1) n _).1 = _
              rw [← HE1.out, HJ.out, outsQ_succ, Nat.add_sub_cancel, List.append_assoc]
              exact rfl
            · show (outsQ (k - 1) n _).2 = _
              rw [← HE2.out, HJ.out, outsQ_succ, Nat.add_sub_cancel]
          · simp [intOf]; omega
        · obtain rfl : k = 0 := by omega
          have HO1 : Hid (acc = (outsQ m n r5).1) := by rw [← HE1.out]; exact (List.append_nil _).symm
          have HO2 : Hid (rr2 = (outsQ m n r5).2) := by rw [← HE2.out]; exact rfl
          have HOF := Lib.hid HA.out.forms
          clear HA HE1 HE2 HAL
          obtain ⟨g0, g1, g2⟩ := HG9.out.c3
          obtain ⟨B5, F5⟩ := HR9.out.put3 (.slice zl.A zl.n zl.c) (.slice zh.A zh.n zh.c) (.slice z.A z.n z.c)
          have H5 := Lib.hid F5
          obtain ⟨d0, d1, d2⟩ := B5.c3
          clear F5 B5
          obtain ⟨z0, z1, z2⟩ := HR9.out.c3
          have fz := HR9.out.frozen
          go_wp2
          generalize ((wr.setCell ⟨w.heap.size, 0, none⟩ (.slice zl.A zl.n zl.c)).setCell ⟨w.heap.size, 1, none⟩ (.slice zh.A zh.n zh.c)).setCell ⟨w.heap.size, 2, none⟩ (.slice z.A z.n z.c) = W5 at *
          (try simp only [Exit.inBlock, Exit.then])
          refine bodyPost_ret (by simp [results, Tryz.results44, go_sem, d0, d1, d2]; try rfl) rfl ?_
          have HQ : regionQ n r = (⟨L, H, acc⟩, rr2) := by
            unfold regionQ
            rw [← HR1.out, HX.out, HY5.out, ← HL1.out, ← HH1.out, ← HO1.out, ← HO2.out]
          rw [HQ]
          exact ⟨⟨zl, zh, z⟩, rfl, ⟨HL.out.stR H5.out HR9.out (by decide) (by decide), HM.out.stR H5.out HR9.out (by decide) (by decide), HOF.out.st H5.out HR9.out (by decide) (by decide) (by decide)⟩, HD9.out.st H5.out HR9.out (by decide) (by decide), (HPW.out.ext HP9.out (fun i hi e => e.elim (fun e => .inl e) (fun e => .inr (by rw [e]; exact N_g.out)))).ext H5.out (fun i _ e => .inr (by rw [e]; exact Nat.le_refl _))⟩
end Go.Proofs.YtcmfepaffhnemaaGreatDoor

set_option linter.unusedVariables false
namespace Go.Proofs.YtcmfepaffhnemaaGreatDoor
open Go.RowKit

attribute [local go_sem] Oper.semAt_some

/-- A query in slots. -/
structure Qv.Iq (w : World) (q : Qv) (x : Qr) : Prop where
  g : q.g.Is w x.g
  rg : Rgv.Is w ⟨q.lo, q.hi, q.rows⟩ x.rg
  goal : q.goal.Is w x.goal
theorem Qv.Iq.gr {w w' : World} {q : Qv} {x : Qr} (h : q.Iq w x) (G : Gr w w') : q.Iq w' x := ⟨h.g.gr G, h.rg.gr G, h.goal.gr G⟩
theorem Qv.Iq.st {w w' : World} {p t : Nat} {us : Array Value} {q : Qv} {x : Qr} (h : q.Iq w x) (F : Fr (fun b => b = p) w w') (hb : Bk w p t us) (h0 : t ≠ 41) (h1 : t ≠ 43) (h2 : t ≠ 104) (h3 : t ≠ 211) : q.Iq w' x :=
  ⟨h.g.st F hb h1 h2 h3, h.rg.st F hb h0 h1 h2 h3, h.goal.tf' F hb h2 h3⟩
theorem Qv.Iq.fp {w w' : World} {p : Nat} {r : List Nat} {q : Qv} {x : Qr} (h : q.Iq w x) (F : Fp p w w') (hd : Fd w p r) : q.Iq w' x := by
  obtain ⟨cs, hc⟩ := hd.bk
  exact h.st F hc (by decide) (by decide) (by decide) (by decide)

set_option maxRecDepth 100000 in
set_option maxHeartbeats 4000000 in
theorem query_any (w : World) (p : Nat) (r : List Nat) (hf : Fd w p r) :
    Calls Tryz.prog 22 #[.pointer (some ⟨p, 0, none⟩)] w fun e w' => ∃ q : Qv, e = .returned q.v ∧ q.Iq w' (queryQ r).1 ∧ Fd w' p (queryQ r).2 ∧ Fp p w w' := by
  have hok := graphQ_ok r
  have hn9 := hok.i9
  have hu9 := hok.u9
  clear hok
  obtain ⟨B1, G⟩ := made1 w 45 (#[.int .i64 0, .slice none 0 0, .slice none 0 0, .slice none 0 0, .slice none 0 0, .slice none 0 0, .slice none 0 0, .bool false, .slice none 0 0, .slice none 0 0])
  have HG := Lib.hid G
  have D_r := Lib.hid B1
  clear G B1
  have HFD := Lib.hid hf
  clear hf
  go_enter Tryz.func22, Tryz.ntmps22
  go_wp2_with fail
  generalize hW : w.alloc (.cells #[.int .i64 0, .slice none 0 0, .slice none 0 0, .slice none 0 0, .slice none 0 0, .slice none 0 0, .slice none 0 0, .bool false, .slice none 0 0, .slice none 0 0] 45) = W at *
  clear hW
  have N_r : Hid (w.heap.size ≤ w.heap.size) := (by show w.heap.size ≤ w.heap.size; omega)
  refine (graph_any W p r (HFD.out.gr HG.out)).mono ?_
  rintro e w1 ⟨⟨gi, zu, zo⟩, rfl, hg, hd, hp⟩
  have hgi : gi = ((graphQ r).1.inputs : Int) := hg.inputs
  subst hgi
  have hzu : (graphQ r).1.units.length = zu.n := hg.units.len
  generalize hn0 : (graphQ r).1.inputs = n at *
  have HN0 := Lib.hid hn0
  have HZU := Lib.hid hzu
  have hw : IntKind.i64.wrap ((n : Int) + (zu.n : Int)) = ((n + zu.n : Nat) : Int) := by rw [IntWalk.i64_in _ (by omega)]; omega
  have hv9 : n + zu.n ≤ 100 := by omega
  obtain ⟨B1, GB⟩ := made1 w1 26 #[.int .i64 (n : Int), .slice zu.A zu.n zu.c, .slice zo.A zo.n zo.c]
  have GM1 := Lib.hid (hg.gr GB)
  have D1 := Lib.hid (hd.gr GB)
  have P1 := Lib.hid ((HG.out.fp.trans hp).stp GB.fr (fun _ _ h => h.elim))
  have R1 := Lib.hid (GB.bk (D_r.out.fp hp (HFD.out.gr HG.out) (by decide)))
  have T1 := Lib.hid B1
  obtain ⟨a0, a1, a2⟩ := B1.c3
  clear hg hd hp GB B1 D_r HFD HG hn0 hzu
  simp only [Gv.v]
  go_upto_region 2 with fail
  generalize w1.alloc (.cells #[.int .i64 (n : Int), .slice zu.A zu.n zu.c, .slice zo.A zo.n zo.c] 26) = W2 at *
  generalize w1.heap.size = tg at *
  generalize hrr : (graphQ r).2 = r1 at *
  have HR1 := Lib.hid hrr
  clear hrr
  go_wp2_with fail
  refine (region_any W2 p n r1 D1.out (by omega)).mono ?_
  rintro e w3 ⟨⟨zl, zh, zr⟩, rfl, hg, hd, hp⟩
  obtain ⟨B1, GB⟩ := made1 w3 36 #[.slice zl.A zl.n zl.c, .slice zh.A zh.n zh.c, .slice zr.A zr.n zr.c]
  have RM0 := Lib.hid ((hg.gr GB).gr (Gr.refl _).drew)
  have GM0 := Lib.hid (((GM1.out.fp hp D1.out).gr GB).gr (Gr.refl _).drew)
  have D0 := Lib.hid ((hd.gr GB).gr (Gr.refl _).drew)
  have P0 := Lib.hid (((P1.out.trans hp).stp GB.fr (fun _ _ h => h.elim)).stp (Gr.refl _).drew.fr (fun _ _ h => h.elim))
  have R0 := Lib.hid ((Gr.refl _).drew.bk (GB.bk (R1.out.fp hp D1.out (by decide))))
  have T0 := Lib.hid ((Gr.refl _).drew.bk (GB.bk (T1.out.fp hp D1.out (by decide))))
  have U0 := Lib.hid ((Gr.refl _).drew.bk B1)
  clear hg hd hp GB B1 a0 a1 a2 GM1 D1 P1 R1 T1
  simp only [Rgv.v]
  go_upto_region 3 with fail
  generalize w3.alloc (.cells #[.slice zl.A zl.n zl.c, .slice zh.A zh.n zh.c, .slice zr.A zr.n zr.c] 36) = W4 at *
  generalize w3.heap.size = tr at *
  generalize hrr : (regionQ n r1).2 = rr at *
  have HR2 := Lib.hid hrr
  clear hrr
  have hS0 : (fun W => W.cell? ⟨tg, 0, none⟩ = some (.int .i64 (n : Int)) ∧ W.cell? ⟨tg, 1, none⟩ = some (.slice zu.A zu.n zu.c) ∧ W.cell? ⟨tg, 2, none⟩ = some (.slice zo.A zo.n zo.c) ∧ W.cell? ⟨tr, 0, none⟩ = some (.slice zl.A zl.n zl.c) ∧ W.cell? ⟨tr, 1, none⟩ = some (.slice zh.A zh.n zh.c) ∧ W.cell? ⟨tr, 2, none⟩ = some (.slice zr.A zr.n zr.c)) W4.drew := ⟨T0.out.c3.1, T0.out.c3.2.1, T0.out.c3.2.2, U0.out.c3.1, U0.out.c3.2.1, U0.out.c3.2.2⟩
  refine wp_region_E (fun W => W.cell? ⟨tg, 0, none⟩ = some (.int .i64 (n : Int)) ∧ W.cell? ⟨tg, 1, none⟩ = some (.slice zu.A zu.n zu.c) ∧ W.cell? ⟨tg, 2, none⟩ = some (.slice zo.A zo.n zo.c) ∧ W.cell? ⟨tr, 0, none⟩ = some (.slice zl.A zl.n zl.c) ∧ W.cell? ⟨tr, 1, none⟩ = some (.slice zh.A zh.n zh.c) ∧ W.cell? ⟨tr, 2, none⟩ = some (.slice zr.A zr.n zr.c)) (by kernel_rfl) ?_
  show anyE _ _ _ _ 12 _ _ _
  generalize W4.drew = v0 at *
  refine anyE.takeL (i := 0) (v := ?wv1) rfl (by kernel_rfl) (by kernel_rfl) (by kernel_rfl) (fun _ _ _ h => h) (Or.inl ⟨by rfl, ?wy1⟩) hS0 ?wr1
  case wy1 => (intro w' hS'; obtain ⟨a0, a1, a2, b0, b1, b2⟩ := hS'; go_simp; try with_reducible rfl)
  try simp only [Act.put, List.setIfInBounds_toArray, List.set_cons_zero, List.set_cons_succ]
  refine anyE.takeL (i := 1) (v := ?wv2) rfl (by kernel_rfl) (by kernel_rfl) (by kernel_rfl) (fun _ _ _ h => h) (Or.inl ⟨by rfl, ?wy2⟩) hS0 ?wr2
  case wy2 => (intro w' hS'; obtain ⟨a0, a1, a2, b0, b1, b2⟩ := hS'; go_simp; try with_reducible rfl)
  try simp only [Act.put, List.setIfInBounds_toArray, List.set_cons_zero, List.set_cons_succ]
  refine anyE.takeL (i := 2) (v := ?wv3) rfl (by kernel_rfl) (by kernel_rfl) (by kernel_rfl) (fun _ _ _ h => h) (Or.inl ⟨by rfl, ?wy3⟩) hS0 ?wr3
  case wy3 => (intro w' hS'; obtain ⟨a0, a1, a2, b0, b1, b2⟩ := hS'; go_simp; try with_reducible rfl)
  try simp only [Act.put, List.setIfInBounds_toArray, List.set_cons_zero, List.set_cons_succ]
  refine anyE.takeL (i := 3) (v := ?wv4) rfl (by kernel_rfl) (by kernel_rfl) (by kernel_rfl) (fun _ _ _ h => h) (Or.inl ⟨by rfl, ?wy4⟩) hS0 ?wr4
  case wy4 => (intro w' hS'; obtain ⟨a0, a1, a2, b0, b1, b2⟩ := hS'; go_simp; try with_reducible rfl)
  try simp only [Act.put, List.setIfInBounds_toArray, List.set_cons_zero, List.set_cons_succ]
  refine anyE.takeL (i := 4) (v := ?wv5) rfl (by kernel_rfl) (by kernel_rfl) (by kernel_rfl) (fun _ _ _ h => h) (Or.inl ⟨by rfl, ?wy5⟩) hS0 ?wr5
  case wy5 => (intro w' hS'; obtain ⟨a0, a1, a2, b0, b1, b2⟩ := hS'; go_simp; try with_reducible rfl)
  try simp only [Act.put, List.setIfInBounds_toArray, List.set_cons_zero, List.set_cons_succ]
  refine anyE.takeL (i := 5) (v := ?wv6) rfl (by kernel_rfl) (by kernel_rfl) (by kernel_rfl) (fun _ _ _ h => h) (Or.inl ⟨by rfl, ?wy6⟩) hS0 ?wr6
  case wy6 => (intro w' hS'; obtain ⟨a0, a1, a2, b0, b1, b2⟩ := hS'; go_simp; try with_reducible rfl)
  try simp only [Act.put, List.setIfInBounds_toArray, List.set_cons_zero, List.set_cons_succ]
  refine anyE.takeL (i := 6) (v := ?wv7) rfl (by kernel_rfl) (by kernel_rfl) (by kernel_rfl) (fun _ _ _ h => h) (Or.inl ⟨by rfl, ?wy7⟩) hS0 ?wr7
  case wy7 => (intro w' hS'; obtain ⟨a0, a1, a2, b0, b1, b2⟩ := hS'; go_simp; try with_reducible rfl)
  try simp only [Act.put, List.setIfInBounds_toArray, List.set_cons_zero, List.set_cons_succ]
  refine anyE.takeL (i := 7) (v := ?wv8) rfl (by kernel_rfl) (by kernel_rfl) (by kernel_rfl) (fun _ _ _ h => h) (Or.inl ⟨by rfl, ?wy8⟩) hS0 ?wr8
  case wy8 => (intro w' hS'; obtain ⟨a0, a1, a2, b0, b1, b2⟩ := hS'; go_simp; try with_reducible rfl)
  try simp only [Act.put, List.setIfInBounds_toArray, List.set_cons_zero, List.set_cons_succ]
  refine anyE.takeL (i := 8) (v := ?wv9) rfl (by kernel_rfl) (by kernel_rfl) (by kernel_rfl) (fun _ _ _ h => h) (Or.inl ⟨by rfl, ?wy9⟩) hS0 ?wr9
  case wy9 => (intro w' hS'; obtain ⟨a0, a1, a2, b0, b1, b2⟩ := hS'; go_simp; try with_reducible rfl)
  try simp only [Act.put, List.setIfInBounds_toArray, List.set_cons_zero, List.set_cons_succ]
  refine anyE.one 9 rfl (by kernel_rfl) (by rfl) (fun K hK => ?_)
  refine doesAt_wp (K := fun v W => ∃ f : Fv, v = f.v ∧ f.Is W (formQ (n + zu.n) rr).1 ∧ Fd W p (formQ (n + zu.n) rr).2 ∧ Fp p v0 W) (doesAt_enter (f := 26) (args := #[.pointer (some ⟨p, 0, none⟩), .int .i64 ((n + zu.n : Nat) : Int)]) (by go_simp; try (first | with_reducible rfl | rfl)) ((form_any _ p (n + zu.n) _ D0.out (by omega)).mono ?_)) ?_
  · rintro e w' ⟨f, rfl, hf, hd, hp⟩
    exact ⟨_, rfl, f, rfl, hf, hd, hp⟩
  rintro v v1 ⟨f, rfl, hf, hd, hp⟩
  have F1 := Lib.hid hf
  have D1 := Lib.hid hd
  have GM1 := Lib.hid (GM0.out.fp hp D0.out)
  have RM1 := Lib.hid (RM0.out.fp hp D0.out)
  have P1 := Lib.hid (P0.out.trans hp)
  have R1 := Lib.hid (R0.out.fp hp D0.out (by decide))
  have T1 := Lib.hid (T0.out.fp hp D0.out (by decide))
  have U1 := Lib.hid (U0.out.fp hp D0.out (by decide))
  clear hf hd hp D0 GM0 RM0 P0 R0 T0 U0 hS0
  refine hK.out _ _ ⟨Or.inl (⟨T1.out.c3.1, T1.out.c3.2.1, T1.out.c3.2.2, U1.out.c3.1, U1.out.c3.2.1, U1.out.c3.2.2⟩), ?_⟩
  clear hK K
  try simp only [Act.put, List.setIfInBounds_toArray, List.set_cons_zero, List.set_cons_succ]
  have hS1 : (fun W => W.cell? ⟨tg, 0, none⟩ = some (.int .i64 (n : Int)) ∧ W.cell? ⟨tg, 1, none⟩ = some (.slice zu.A zu.n zu.c) ∧ W.cell? ⟨tg, 2, none⟩ = some (.slice zo.A zo.n zo.c) ∧ W.cell? ⟨tr, 0, none⟩ = some (.slice zl.A zl.n zl.c) ∧ W.cell? ⟨tr, 1, none⟩ = some (.slice zh.A zh.n zh.c) ∧ W.cell? ⟨tr, 2, none⟩ = some (.slice zr.A zr.n zr.c)) v1 := ⟨T1.out.c3.1, T1.out.c3.2.1, T1.out.c3.2.2, U1.out.c3.1, U1.out.c3.2.1, U1.out.c3.2.2⟩
  refine anyE.takeL (i := 10) (v := ?wv10) rfl (by kernel_rfl) (by kernel_rfl) (by kernel_rfl) (fun _ _ _ h => h) (Or.inl ⟨by rfl, ?wy10⟩) hS1 ?wr10
  case wy10 => (intro w' hS'; obtain ⟨a0, a1, a2, b0, b1, b2⟩ := hS'; go_simp; try with_reducible rfl)
  try simp only [Act.put, List.setIfInBounds_toArray, List.set_cons_zero, List.set_cons_succ]
  clear hS1
  refine anyE.one 11 rfl (by kernel_rfl) (by rfl) (fun K hK => ?_)
  have fz5 := R1.out.frozen
  obtain ⟨z50, z51, z52, z53, z54, z55, z56, z57, z58, z59⟩ := R1.out.c10
  go_simp
  refine hK.out _ _ ⟨Or.inr (by kernel_rfl), ?_⟩
  clear hK K
  try simp only [Act.put, List.setIfInBounds_toArray, List.set_cons_zero, List.set_cons_succ]
  refine anyE.done (by kernel_rfl) ?_
  clear fz5 z50 z51 z52 z53 z54 z55 z56 z57 z58 z59
  obtain ⟨B5, F5⟩ := R1.out.put10 (.int .i64 (n : Int)) (.slice zu.A zu.n zu.c) (.slice zo.A zo.n zo.c) (.slice zl.A zl.n zl.c) (.slice zh.A zh.n zh.c) (.slice zr.A zr.n zr.c) (.slice f.terms.A f.terms.n f.terms.c) (.bool f.const.neg) (.slice f.const.num.A f.const.num.n f.const.num.c) (.slice f.const.den.A f.const.den.n f.const.den.c)
  have H5 := Lib.hid F5
  have D5 := Lib.hid B5
  obtain ⟨d0, d1, d2, d3, d4, d5, d6, d7, d8, d9⟩ := B5.c10
  clear F5 B5
  generalize (((((((((v1.setCell ⟨w.heap.size, 0, none⟩ (.int .i64 (n : Int))).setCell ⟨w.heap.size, 1, none⟩ (.slice zu.A zu.n zu.c)).setCell ⟨w.heap.size, 2, none⟩ (.slice zo.A zo.n zo.c)).setCell ⟨w.heap.size, 3, none⟩ (.slice zl.A zl.n zl.c)).setCell ⟨w.heap.size, 4, none⟩ (.slice zh.A zh.n zh.c)).setCell ⟨w.heap.size, 5, none⟩ (.slice zr.A zr.n zr.c)).setCell ⟨w.heap.size, 6, none⟩ (.slice f.terms.A f.terms.n f.terms.c)).setCell ⟨w.heap.size, 7, none⟩ (.bool f.const.neg)).setCell ⟨w.heap.size, 8, none⟩ (.slice f.const.num.A f.const.num.n f.const.num.c)).setCell ⟨w.heap.size, 9, none⟩ (.slice f.const.den.A f.const.den.n f.const.den.c) = W5 at *
  go_wp2
  (try simp only [Exit.inBlock, Exit.then])
  refine bodyPost_ret (by simp [results, Tryz.results22, go_sem, d0, d1, d2, d3, d4, d5, d6, d7, d8, d9]; try rfl) rfl ?_
  have HQ : queryQ r = (⟨(graphQ r).1, (regionQ n r1).1, (formQ (n + zu.n) rr).1⟩, (formQ (n + zu.n) rr).2) := by
    unfold queryQ
    rw [HN0.out, HZU.out, HR1.out, HR2.out]
  rw [HQ]
  exact ⟨⟨⟨n, zu, zo⟩, zl, zh, zr, f⟩, rfl, ⟨GM1.out.st H5.out R1.out (by decide) (by decide) (by decide), RM1.out.st H5.out R1.out (by decide) (by decide) (by decide) (by decide), F1.out.tf' H5.out R1.out (by decide) (by decide)⟩, D1.out.st H5.out R1.out (by decide) (by decide), P1.out.stp H5.out (fun b _ e => Or.inr (by rw [e]; exact Nat.le_refl _))⟩
set_option maxRecDepth 100000 in
set_option maxHeartbeats 4000000 in

theorem instance_any (w : World) (x : Sv) (L : List Nat) (hx : x.Is w 1 (L.map bv)) (hl : ∀ y ∈ L, y < 256) (hn : x.n ≤ 1000) :
    Calls Tryz.prog 10 #[.slice x.A x.n x.c] w fun e w' => ∃ q : Qv, e = .returned q.v ∧ q.Iq w' (queryQ L).1 ∧ Gr w w' := by
  obtain ⟨B1, G⟩ := made1 w 45 (#[.int .i64 0, .slice none 0 0, .slice none 0 0, .slice none 0 0, .slice none 0 0, .slice none 0 0, .slice none 0 0, .bool false, .slice none 0 0, .slice none 0 0])
  have HG := Lib.hid G
  have D_r := Lib.hid B1
  clear G B1
  have HX := Lib.hid hx
  have HL := Lib.hid hl
  clear hx hl
  go_enter Tryz.func10, Tryz.ntmps10
  go_wp2_with fail
  generalize hW : w.alloc (.cells #[.int .i64 0, .slice none 0 0, .slice none 0 0, .slice none 0 0, .slice none 0 0, .slice none 0 0, .slice none 0 0, .bool false, .slice none 0 0, .slice none 0 0] 45) = W at *
  clear hW
  have N_r : Hid (w.heap.size ≤ w.heap.size) := (by show w.heap.size ≤ w.heap.size; omega)
  refine (new_any W x L (HX.out.gr HG.out) HL.out hn).mono ?_
  rintro e w1 ⟨p, rfl, hp, hd, G1⟩
  have HD := Lib.hid hd
  have DR := Lib.hid (G1.bk D_r.out)
  have HG1 := Lib.hid (HG.out.trans G1)
  have HPO := Lib.hid (Nat.le_trans HG.out.size hp)
  clear hp hd G1
  go_wp2_with fail
  refine (query_any w1 p L HD.out).mono ?_
  rintro e w2 ⟨q, rfl, hg, hd, hp⟩
  have DR2 := Lib.hid (DR.out.fp hp HD.out (by decide))
  have HGG := Lib.hid (HG1.out.step hp (fun b _ e => by rw [e]; exact HPO.out))
  have HV := Lib.hid hg
  clear hg hd hp
  obtain ⟨B5, F5⟩ := DR2.out.put10 (.int .i64 q.g.inputs) (.slice q.g.units.A q.g.units.n q.g.units.c) (.slice q.g.outs.A q.g.outs.n q.g.outs.c) (.slice q.lo.A q.lo.n q.lo.c) (.slice q.hi.A q.hi.n q.hi.c) (.slice q.rows.A q.rows.n q.rows.c) (.slice q.goal.terms.A q.goal.terms.n q.goal.terms.c) (.bool q.goal.const.neg) (.slice q.goal.const.num.A q.goal.const.num.n q.goal.const.num.c) (.slice q.goal.const.den.A q.goal.const.den.n q.goal.const.den.c)
  have H5 := Lib.hid F5
  obtain ⟨d0, d1, d2, d3, d4, d5, d6, d7, d8, d9⟩ := B5.c10
  clear F5 B5
  obtain ⟨z0, z1, z2, z3, z4, z5, z6, z7, z8, z9⟩ := DR2.out.c10
  have fz := DR2.out.frozen
  go_wp2
  generalize (((((((((w2.setCell ⟨w.heap.size, 0, none⟩ (.int .i64 q.g.inputs)).setCell ⟨w.heap.size, 1, none⟩ (.slice q.g.units.A q.g.units.n q.g.units.c)).setCell ⟨w.heap.size, 2, none⟩ (.slice q.g.outs.A q.g.outs.n q.g.outs.c)).setCell ⟨w.heap.size, 3, none⟩ (.slice q.lo.A q.lo.n q.lo.c)).setCell ⟨w.heap.size, 4, none⟩ (.slice q.hi.A q.hi.n q.hi.c)).setCell ⟨w.heap.size, 5, none⟩ (.slice q.rows.A q.rows.n q.rows.c)).setCell ⟨w.heap.size, 6, none⟩ (.slice q.goal.terms.A q.goal.terms.n q.goal.terms.c)).setCell ⟨w.heap.size, 7, none⟩ (.bool q.goal.const.neg)).setCell ⟨w.heap.size, 8, none⟩ (.slice q.goal.const.num.A q.goal.const.num.n q.goal.const.num.c)).setCell ⟨w.heap.size, 9, none⟩ (.slice q.goal.const.den.A q.goal.const.den.n q.goal.const.den.c) = W5 at *
  (try simp only [Exit.inBlock, Exit.then])
  refine bodyPost_ret (by simp [results, Tryz.results10, go_sem, d0, d1, d2, d3, d4, d5, d6, d7, d8, d9]; try rfl) rfl ?_
  exact ⟨q, rfl, HV.out.st H5.out DR2.out (by decide) (by decide) (by decide) (by decide), HGG.out.fr_at H5.out N_r.out⟩
end Go.Proofs.YtcmfepaffhnemaaGreatDoor

set_option linter.unusedVariables false
namespace Go.Proofs.YtcmfepaffhnemaaGreatDoor
open Go.RowKit

attribute [local go_sem] Oper.semAt_some

theorem Bk.put4of10 {w : World} {p t : Nat} {a b c d e f g h i j : Value} (hh : Bk w p t #[a, b, c, d, e, f, g, h, i, j]) (x0 x1 x2 x3 : Value) : Bk ((((w.setCell ⟨p, 6, none⟩ x0).setCell ⟨p, 7, none⟩ x1).setCell ⟨p, 8, none⟩ x2).setCell ⟨p, 9, none⟩ x3) p t #[a, b, c, d, e, f, x0, x1, x2, x3] ∧ Fr (fun b => b = p) w ((((w.setCell ⟨p, 6, none⟩ x0).setCell ⟨p, 7, none⟩ x1).setCell ⟨p, 8, none⟩ x2).setCell ⟨p, 9, none⟩ x3) := by
  refine ⟨?_, ((((Fr.set w ⟨p, 6, none⟩ x0 rfl : Fr (fun b => b = p) w _)).trans (Fr.set _ ⟨p, 7, none⟩ x1 rfl)).trans (Fr.set _ ⟨p, 8, none⟩ x2 rfl)).trans (Fr.set _ ⟨p, 9, none⟩ x3 rfl)⟩
  have := (((Bk.put hh 6 x0).put 7 x1).put 8 x2).put 9 x3
  simpa using this
theorem own_form {w : World} {B e k n : Nat} {v : Value} {xs : List Value} (h : w.ownsRow B e k v n xs) (hn : 0 < n) : ∃ g c, v = .slice (some ⟨g, 0, none⟩) n c := by
  obtain ⟨_, ⟨rfl, rfl⟩ | ⟨g, cap, cur, rfl, _⟩⟩ := h
  · exact absurd hn (by decide)
  · exact ⟨g, cap, rfl⟩
theorem Bk.put1of10 {w : World} {p t : Nat} {a b c d e f g h i j : Value} (hh : Bk w p t #[a, b, c, d, e, f, g, h, i, j]) (x : Value) : Bk (w.setCell ⟨p, 1, none⟩ x) p t #[a, x, c, d, e, f, g, h, i, j] ∧ Fr (fun b => b = p) w (w.setCell ⟨p, 1, none⟩ x) :=
  ⟨by have := Bk.put hh 1 x; simpa using this, Fr.set w ⟨p, 1, none⟩ x rfl⟩
theorem Qv.Iq.pg {w w' : World} {p g : Nat} {r : List Nat} {us : Array Value} {q : Qv} {x : Qr} (h : q.Iq w x) (F : Fr (fun b => b = p ∨ b = g) w w') (hd : Fd w p r) (hg : Bk w g 45 us) : q.Iq w' x := by
  obtain ⟨cs, hc⟩ := hd.bk
  have no : ∀ t, t ≠ 96 → t ≠ 45 → ∀ b cs fr, (b = p ∨ b = g) → w.heap[b]? ≠ some (.cells cs t fr) := fun t h1 h2 b cs fr e hh => by
    rcases e with e | e
    · exact Bk.not_ty hc (Ne.symm h1) cs fr (e ▸ hh)
    · exact Bk.not_ty hg (Ne.symm h2) cs fr (e ▸ hh)
  have hF : ∀ (f : Fv) (a : Fm), f.Is w a → f.Is w' a := fun f a hf => hf.tf F (no _ (by decide) (by decide)) (no _ (by decide) (by decide))
  have hR : ∀ (f : Rv) (a : Q), f.Is w a → f.Is w' a := fun f a hf => hf.tf F (no _ (by decide) (by decide))
  exact ⟨⟨h.g.inputs, Rows.tf h.g.units F (no _ (by decide) (by decide)) hF, Rows.tf h.g.outs F (no _ (by decide) (by decide)) hF⟩, ⟨Rows.tf h.rg.lo F (no _ (by decide) (by decide)) hR, Rows.tf h.rg.hi F (no _ (by decide) (by decide)) hR, Rows.tf h.rg.rows F (no _ (by decide) (by decide)) hF⟩, hF _ _ h.goal⟩
/-- An element of a row of our own is written. -/
theorem OwnF.set4 {w : World} {B g n c : Nat} {l : List Fm} (h : OwnF w B ⟨some ⟨g, 0, none⟩, n, c⟩ l) {k : Nat} {a0 : Fm} (hk : l[k]? = some a0) (f : Fv) :
    ∃ (bs : Array Value) (x0 x1 x2 x3 : Value), Bk w g 43 bs ∧ B ≤ g ∧ w.cell? ⟨g, k * 4, none⟩ = some x0 ∧ w.cell? ⟨g, k * 4 + 1, none⟩ = some x1 ∧ w.cell? ⟨g, k * 4 + 2, none⟩ = some x2 ∧ w.cell? ⟨g, k * 4 + 3, none⟩ = some x3 ∧
      ∀ a, f.Is w a → OwnF ((((w.setCell ⟨g, k * 4, none⟩ (.slice f.terms.A f.terms.n f.terms.c)).setCell ⟨g, k * 4 + 1, none⟩ (.bool f.const.neg)).setCell ⟨g, k * 4 + 2, none⟩ (.slice f.const.num.A f.const.num.n f.const.num.c)).setCell ⟨g, k * 4 + 3, none⟩ (.slice f.const.den.A f.const.den.n f.const.den.c)) B ⟨some ⟨g, 0, none⟩, n, c⟩ (l.set k a) ∧
        Fr (fun b => b = g) w ((((w.setCell ⟨g, k * 4, none⟩ (.slice f.terms.A f.terms.n f.terms.c)).setCell ⟨g, k * 4 + 1, none⟩ (.bool f.const.neg)).setCell ⟨g, k * 4 + 2, none⟩ (.slice f.const.num.A f.const.num.n f.const.num.c)).setCell ⟨g, k * 4 + 3, none⟩ (.slice f.const.den.A f.const.den.n f.const.den.c)) := by
  have hlt := (h.lt g rfl).1
  obtain ⟨ts, t1, rfl, t3⟩ := h
  rw [List.getElem?_map] at hk
  obtain ⟨⟨f0, a1⟩, hts, rfl⟩ := Option.map_eq_some_iff.1 hk
  obtain ⟨bs, hb⟩ := rw_bk t1 g rfl
  have hF : ∀ p : Fv × Fm, (Fv.cs p.1).length = 4 := fun _ => rfl
  have hc := fun j (hj : j < 4) => row_cell (F := fun p : Fv × Fm => Fv.cs p.1) hF t1 hts hj
  refine ⟨bs, _, _, _, _, hb, hlt, hc 0 (by decide), hc 1 (by decide), hc 2 (by decide), hc 3 (by decide), fun a ha => ?_⟩
  have F : Fr (fun b => b = g) w ((((w.setCell ⟨g, k * 4, none⟩ (.slice f.terms.A f.terms.n f.terms.c)).setCell ⟨g, k * 4 + 1, none⟩ (.bool f.const.neg)).setCell ⟨g, k * 4 + 2, none⟩ (.slice f.const.num.A f.const.num.n f.const.num.c)).setCell ⟨g, k * 4 + 3, none⟩ (.slice f.const.den.A f.const.den.n f.const.den.c)) :=
    (((Fr.set w ⟨g, k * 4, none⟩ _ rfl : Fr (fun b => b = g) w _).trans (Fr.set _ ⟨g, k * 4 + 1, none⟩ _ rfl)).trans (Fr.set _ ⟨g, k * 4 + 2, none⟩ _ rfl)).trans (Fr.set _ ⟨g, k * 4 + 3, none⟩ _ rfl)
  have hkl := (List.getElem?_eq_some_iff.1 hts).1
  have s1 := row_set (F := fun p : Fv × Fm => Fv.cs p.1) (j := 0) (b := (⟨f.terms, f0.const⟩, a)) (x := .slice f.terms.A f.terms.n f.terms.c) hF t1 hts (by decide) rfl
  have s2 := row_set (F := fun p : Fv × Fm => Fv.cs p.1) (j := 1) (b := (⟨f.terms, ⟨f.const.neg, f0.const.num, f0.const.den⟩⟩, a)) (x := .bool f.const.neg) hF s1 (List.getElem?_set_self hkl) (by decide) rfl
  rw [List.set_set] at s2
  have s3 := row_set (F := fun p : Fv × Fm => Fv.cs p.1) (j := 2) (b := (⟨f.terms, ⟨f.const.neg, f.const.num, f0.const.den⟩⟩, a)) (x := .slice f.const.num.A f.const.num.n f.const.num.c) hF s2 (List.getElem?_set_self hkl) (by decide) rfl
  rw [List.set_set] at s3
  have s4 := row_set (F := fun p : Fv × Fm => Fv.cs p.1) (j := 3) (b := (f, a)) (x := .slice f.const.den.A f.const.den.n f.const.den.c) hF s3 (List.getElem?_set_self hkl) (by decide) rfl
  rw [List.set_set] at s4
  refine ⟨⟨ts.set k (f, a), s4, by rw [List.map_set], fun p hp => ?_⟩, F⟩
  rcases List.mem_or_eq_of_mem_set hp with h | h
  · exact (t3 p h).tf' F hb (by decide) (by decide)
  · rw [h]; exact ha.tf' F hb (by decide) (by decide)
theorem gr_of_fp {w w' : World} {p : Nat} (hp : w.heap.size ≤ p) (F : Fp p w w') : Gr w w' := Fr.wide F fun b _ e => by rw [e]; exact hp

set_option maxRecDepth 100000 in
set_option maxHeartbeats 4000000 in
theorem changed_any (w : World) (q : Qv) (x : Qr) (s : Sv) (L : List Nat) (hq : q.Iq w x) (hx : s.Is w 1 (L.map bv)) (hl : ∀ y ∈ L, y < 256) (hn : s.n ≤ 1000) (hok : x.g.Ok) (hgq : x.goal.Qt 100) :
    Calls Tryz.prog 11 #[q.v, .slice s.A s.n s.c] w fun e w' => ∃ y : Qv, e = .returned y.v ∧ y.Iq w' (changedQ x L) ∧ Gr w w' := by
  obtain ⟨⟨gi, zu, zo⟩, zl, zh, zr, qg⟩ := q
  have hgi : gi = (x.g.inputs : Int) := hq.g.inputs
  subst hgi
  have hzu : x.g.units.length = zu.n := hq.g.units.len
  have hn9 := hok.i9
  have hu9 := hok.u9
  generalize hn0 : x.g.inputs = n at *
  have HN0 := Lib.hid hn0
  have HLU := Lib.hid hzu
  have hw : IntKind.i64.wrap ((zu.n : Int) + 1) = ((zu.n + 1 : Nat) : Int) := by rw [IntWalk.i64_in _ (by omega)]; omega
  have hu99 : zu.n ≤ 4 := by omega
  clear hn0 hzu hu9
  obtain ⟨B1, B2, G⟩ := made2 w 45 45 (#[.int .i64 (n : Int), .slice zu.A zu.n zu.c, .slice zo.A zo.n zo.c, .slice zl.A zl.n zl.c, .slice zh.A zh.n zh.c, .slice zr.A zr.n zr.c, .slice qg.terms.A qg.terms.n qg.terms.c, .bool qg.const.neg, .slice qg.const.num.A qg.const.num.n qg.const.num.c, .slice qg.const.den.A qg.const.den.n qg.const.den.c]) (#[.int .i64 0, .slice none 0 0, .slice none 0 0, .slice none 0 0, .slice none 0 0, .slice none 0 0, .slice none 0 0, .bool false, .slice none 0 0, .slice none 0 0])
  have HG := Lib.hid G
  have D_p := Lib.hid B1
  have D_rb := Lib.hid B2
  clear G B1 B2
  have HQ := Lib.hid hq
  have HX := Lib.hid hx
  have HL := Lib.hid hl
  have HGQ := Lib.hid hgq
  have HOK := Lib.hid hok
  clear hq hx hl hgq hok
  have HRP : Hid (¬ w.heap.size + 1 = w.heap.size) := (fun e => by omega)
  obtain ⟨a0, a1, a2, a3, a4, a5, a6, a7, a8, a9⟩ := D_p.out.c10
  simp only [Qv.v] at *
  go_enter Tryz.func11, Tryz.ntmps11
  go_wp2_with fail
  generalize hW : (w.alloc (.cells #[.int .i64 (n : Int), .slice zu.A zu.n zu.c, .slice zo.A zo.n zo.c, .slice zl.A zl.n zl.c, .slice zh.A zh.n zh.c, .slice zr.A zr.n zr.c, .slice qg.terms.A qg.terms.n qg.terms.c, .bool qg.const.neg, .slice qg.const.num.A qg.const.num.n qg.const.num.c, .slice qg.const.den.A qg.const.den.n qg.const.den.c] 45)).alloc (.cells #[.int .i64 0, .slice none 0 0, .slice none 0 0, .slice none 0 0, .slice none 0 0, .slice none 0 0, .slice none 0 0, .bool false, .slice none 0 0, .slice none 0 0] 45) = W at *
  clear hW
  have N_p : Hid (w.heap.size ≤ w.heap.size) := (by show w.heap.size ≤ w.heap.size; omega)
  have N_rb : Hid (w.heap.size ≤ w.heap.size + 1) := (by show w.heap.size ≤ w.heap.size + 1; omega)
  generalize w.heap.size + 1 = rb at *
  refine (new_any W s L (HX.out.gr HG.out) HL.out hn).mono ?_
  rintro e w1 ⟨fb, rfl, hp, hd, G1⟩
  obtain ⟨B1, GB⟩ := made1 w1 45 #[.int .i64 (n : Int), .slice zu.A zu.n zu.c, .slice zo.A zo.n zo.c, .slice zl.A zl.n zl.c, .slice zh.A zh.n zh.c, .slice zr.A zr.n zr.c, .slice qg.terms.A qg.terms.n qg.terms.c, .bool qg.const.neg, .slice qg.const.num.A qg.const.num.n qg.const.num.c, .slice qg.const.den.A qg.const.den.n qg.const.den.c]
  have D1 := Lib.hid (hd.gr GB)
  have B_1 := Lib.hid (GB.bk (G1.bk D_p.out))
  have R1 := Lib.hid (GB.bk (G1.bk D_rb.out))
  have O1 := Lib.hid B1
  have Q1 := Lib.hid (((HQ.out.gr HG.out).gr G1).gr GB)
  have G_ := Lib.hid ((HG.out.trans G1).trans GB)
  have HFN : Hid (w.heap.size ≤ fb) := Lib.hid (Nat.le_trans HG.out.size hp)
  have HNO := Lib.hid (Nat.le_trans HG.out.size G1.size)
  have HRO : Hid (¬ rb = w1.heap.size) := (fun e => Nat.lt_irrefl _ (e ▸ (G1.bk D_rb.out).lt))
  have HPO : Hid (¬ w.heap.size = w1.heap.size) := (fun e => Nat.lt_irrefl _ (e ▸ (G1.bk D_p.out).lt))
  have HNR := N_rb
  have b_ := (G1.bk D_p.out).c10
  obtain ⟨a0, a1, a2, a3, a4, a5, a6, a7, a8, a9⟩ := b_
  clear hp hd G1 B1 D_p D_rb HG HQ HX HL
  go_upto_region 3 with fail
  generalize w1.alloc (.cells #[.int .i64 (n : Int), .slice zu.A zu.n zu.c, .slice zo.A zo.n zo.c, .slice zl.A zl.n zl.c, .slice zh.A zh.n zh.c, .slice zr.A zr.n zr.c, .slice qg.terms.A qg.terms.n qg.terms.c, .bool qg.const.neg, .slice qg.const.num.A qg.const.num.n qg.const.num.c, .slice qg.const.den.A qg.const.den.n qg.const.den.c] 45) = W2 at *
  generalize w1.heap.size = ob at *
  clear a0 a1 a2 a3 a4 a5 a6 a7 a8 a9
  obtain ⟨a0, a1, a2, a3, a4, a5, a6, a7, a8, a9⟩ := B_1.out.c10
  go_wp2_with fail
  refine (next_any W2 fb (zu.n + 1) L D1.out (by omega) (by omega)).mono ?_
  rintro e w3 ⟨rfl, hd, hp⟩
  have hk9 := nx_lt (n := zu.n + 1) (by omega) L
  generalize hk : (nx (zu.n + 1) L).1 = k at *
  have HK := Lib.hid hk
  generalize hrr : (nx (zu.n + 1) L).2 = rr at *
  have HRR := Lib.hid hrr
  have Q_ := Lib.hid (Q1.out.fp hp D1.out)
  have B_ := Lib.hid (B_1.out.fp hp D1.out (by decide))
  have O_ := Lib.hid (O1.out.fp hp D1.out (by decide))
  have R_ := Lib.hid (R1.out.fp hp D1.out (by decide))
  have P_ := Lib.hid (G_.out.fp.trans hp)
  have D_ := Lib.hid hd
  clear hd hp Q1 B_1 O1 R1 G_ D1 hk hrr a0 a1 a2 a3 a4 a5 a6 a7 a8 a9
  obtain ⟨a0, a1, a2, a3, a4, a5, a6, a7, a8, a9⟩ := B_.out.c10
  by_cases hkz : k = zu.n
  · have HKZ := Lib.hid hkz
    have hkk : ((k : Int) == (zu.n : Int)) = true := by rw [hkz]; simp
    replace HK : Hid ((nx (zu.n + 1) L).1 = zu.n) := Lib.hid (HK.out.trans hkz)
    have PRE := Lib.hid (chg_pre HGQ.out (formQ_qt n rr) (numQ_qt (formQ n rr).2) (by decide) (by omega))
    have HSM := Lib.hid (formQ_qt n rr).sm
    have HNS := Lib.hid ((numQ_qt (formQ n rr).2).dy.sm (by decide))
    have HLN := Lib.hid (Nat.le_trans (formQ_qt n rr).len (by omega : n ≤ 900))
    clear hkz
    go_upto_region 5 with fail
    generalize w3 = W3 at *
    have GD := (Gr.refl W3).drew
    have Q0 := Lib.hid (Q_.out.gr GD)
    have D0 := Lib.hid (D_.out.gr GD)
    have P0 := Lib.hid (P_.out.trans GD.fp)
    have B0 := Lib.hid (GD.bk B_.out)
    have O0 := Lib.hid (GD.bk O_.out)
    have R0 := Lib.hid (GD.bk R_.out)
    clear GD Q_ D_ P_ B_ O_ R_ a0 a1 a2 a3 a4 a5 a6 a7 a8 a9
    have hS0 : (fun W => W.cell? ⟨w.heap.size, 0, none⟩ = some (.int .i64 (n : Int)) ∧ W.cell? ⟨w.heap.size, 1, none⟩ = some (.slice zu.A zu.n zu.c) ∧ W.cell? ⟨w.heap.size, 2, none⟩ = some (.slice zo.A zo.n zo.c) ∧ W.cell? ⟨w.heap.size, 3, none⟩ = some (.slice zl.A zl.n zl.c) ∧ W.cell? ⟨w.heap.size, 4, none⟩ = some (.slice zh.A zh.n zh.c) ∧ W.cell? ⟨w.heap.size, 5, none⟩ = some (.slice zr.A zr.n zr.c) ∧ W.cell? ⟨w.heap.size, 6, none⟩ = some (.slice qg.terms.A qg.terms.n qg.terms.c) ∧ W.cell? ⟨w.heap.size, 7, none⟩ = some (.bool qg.const.neg) ∧ W.cell? ⟨w.heap.size, 8, none⟩ = some (.slice qg.const.num.A qg.const.num.n qg.const.num.c) ∧ W.cell? ⟨w.heap.size, 9, none⟩ = some (.slice qg.const.den.A qg.const.den.n qg.const.den.c)) W3.drew := B0.out.c10
    refine wp_region_E (fun W => W.cell? ⟨w.heap.size, 0, none⟩ = some (.int .i64 (n : Int)) ∧ W.cell? ⟨w.heap.size, 1, none⟩ = some (.slice zu.A zu.n zu.c) ∧ W.cell? ⟨w.heap.size, 2, none⟩ = some (.slice zo.A zo.n zo.c) ∧ W.cell? ⟨w.heap.size, 3, none⟩ = some (.slice zl.A zl.n zl.c) ∧ W.cell? ⟨w.heap.size, 4, none⟩ = some (.slice zh.A zh.n zh.c) ∧ W.cell? ⟨w.heap.size, 5, none⟩ = some (.slice zr.A zr.n zr.c) ∧ W.cell? ⟨w.heap.size, 6, none⟩ = some (.slice qg.terms.A qg.terms.n qg.terms.c) ∧ W.cell? ⟨w.heap.size, 7, none⟩ = some (.bool qg.const.neg) ∧ W.cell? ⟨w.heap.size, 8, none⟩ = some (.slice qg.const.num.A qg.const.num.n qg.const.num.c) ∧ W.cell? ⟨w.heap.size, 9, none⟩ = some (.slice qg.const.den.A qg.const.den.n qg.const.den.c)) (by kernel_rfl) ?_
    show anyE _ _ _ _ 13 _ _ _
    generalize W3.drew = v0 at *
    refine anyE.takeL (i := 0) (v := ?wv1) rfl (by kernel_rfl) (by kernel_rfl) (by kernel_rfl) (fun _ _ _ h => h) (Or.inl ⟨by rfl, ?wy1⟩) hS0 ?wr1
    case wy1 => (intro w' hS'; obtain ⟨a0, a1, a2, a3, a4, a5, a6, a7, a8, a9⟩ := hS'; go_simp; try with_reducible rfl)
    try simp only [Act.put, List.setIfInBounds_toArray, List.set_cons_zero, List.set_cons_succ]
    refine anyE.takeL (i := 1) (v := ?wv2) rfl (by kernel_rfl) (by kernel_rfl) (by kernel_rfl) (fun _ _ _ h => h) (Or.inl ⟨by rfl, ?wy2⟩) hS0 ?wr2
    case wy2 => (intro w' hS'; obtain ⟨a0, a1, a2, a3, a4, a5, a6, a7, a8, a9⟩ := hS'; go_simp; try with_reducible rfl)
    try simp only [Act.put, List.setIfInBounds_toArray, List.set_cons_zero, List.set_cons_succ]
    refine anyE.takeL (i := 2) (v := ?wv3) rfl (by kernel_rfl) (by kernel_rfl) (by kernel_rfl) (fun _ _ _ h => h) (Or.inl ⟨by rfl, ?wy3⟩) hS0 ?wr3
    case wy3 => (intro w' hS'; obtain ⟨a0, a1, a2, a3, a4, a5, a6, a7, a8, a9⟩ := hS'; go_simp; try with_reducible rfl)
    try simp only [Act.put, List.setIfInBounds_toArray, List.set_cons_zero, List.set_cons_succ]
    refine anyE.takeL (i := 3) (v := ?wv4) rfl (by kernel_rfl) (by kernel_rfl) (by kernel_rfl) (fun _ _ _ h => h) (Or.inl ⟨by rfl, ?wy4⟩) hS0 ?wr4
    case wy4 => (intro w' hS'; obtain ⟨a0, a1, a2, a3, a4, a5, a6, a7, a8, a9⟩ := hS'; go_simp; try with_reducible rfl)
    try simp only [Act.put, List.setIfInBounds_toArray, List.set_cons_zero, List.set_cons_succ]
    refine anyE.takeL (i := 4) (v := ?wv5) rfl (by kernel_rfl) (by kernel_rfl) (by kernel_rfl) (fun _ _ _ h => h) (Or.inl ⟨by rfl, ?wy5⟩) hS0 ?wr5
    case wy5 => (intro w' hS'; obtain ⟨a0, a1, a2, a3, a4, a5, a6, a7, a8, a9⟩ := hS'; go_simp; try with_reducible rfl)
    try simp only [Act.put, List.setIfInBounds_toArray, List.set_cons_zero, List.set_cons_succ]
    refine anyE.takeL (i := 5) (v := ?wv6) rfl (by kernel_rfl) (by kernel_rfl) (by kernel_rfl) (fun _ _ _ h => h) (Or.inl ⟨by rfl, ?wy6⟩) hS0 ?wr6
    case wy6 => (intro w' hS'; obtain ⟨a0, a1, a2, a3, a4, a5, a6, a7, a8, a9⟩ := hS'; go_simp; try with_reducible rfl)
    try simp only [Act.put, List.setIfInBounds_toArray, List.set_cons_zero, List.set_cons_succ]
    refine anyE.takeL (i := 7) (v := ?wv7) rfl (by kernel_rfl) (by kernel_rfl) (by kernel_rfl) (fun _ _ _ h => h) (Or.inl ⟨by rfl, ?wy7⟩) hS0 ?wr7
    case wy7 => (intro w' hS'; obtain ⟨a0, a1, a2, a3, a4, a5, a6, a7, a8, a9⟩ := hS'; go_simp; try with_reducible rfl)
    try simp only [Act.put, List.setIfInBounds_toArray, List.set_cons_zero, List.set_cons_succ]
    refine anyE.one 6 rfl (by kernel_rfl) (by rfl) (fun K hK => ?_)
    refine doesAt_wp (K := fun v W => ∃ f : Fv, v = f.v ∧ f.Is W (formQ n rr).1 ∧ Fd W fb (formQ n rr).2 ∧ Fp fb v0 W) (doesAt_enter (f := 26) (args := #[.pointer (some ⟨fb, 0, none⟩), .int .i64 (n : Int)]) (by go_simp; try (first | with_reducible rfl | rfl)) ((form_any _ fb n _ D0.out (by omega)).mono ?_)) ?_
    · rintro e w' ⟨f, rfl, hf, hd, hp⟩
      exact ⟨_, rfl, f, rfl, hf, hd, hp⟩
    rintro v v1 ⟨f, rfl, hf, hd, hp⟩
    have F1 := Lib.hid hf
    have D1 := Lib.hid hd
    have Q1 := Lib.hid (Q0.out.fp hp D0.out)
    have P1 := Lib.hid (P0.out.trans hp)
    have B1 := Lib.hid (B0.out.fp hp D0.out (by decide))
    have O1 := Lib.hid (O0.out.fp hp D0.out (by decide))
    have R1 := Lib.hid (R0.out.fp hp D0.out (by decide))
    clear Q0 D0 P0 B0 O0 R0 hf hd hp hS0
    refine hK.out _ _ ⟨Or.inl (B1.out.c10), ?_⟩
    clear hK K
    try simp only [Act.put, List.setIfInBounds_toArray, List.set_cons_zero, List.set_cons_succ]
    refine anyE.one 8 rfl (by kernel_rfl) (by rfl) (fun K hK => ?_)
    refine doesAt_wp (K := fun v W => ∃ c : Rv, v = c.v ∧ c.Is W (numQ (formQ n rr).2).1 ∧ Fd W fb (numQ (formQ n rr).2).2 ∧ Fp fb v1 W) (doesAt_enter (f := 27) (args := #[.pointer (some ⟨fb, 0, none⟩)]) (by go_simp; try (first | with_reducible rfl | rfl)) ((number_any _ fb _ D1.out).mono ?_)) ?_
    · rintro e w' ⟨c, rfl, hc, hd, hp⟩
      exact ⟨_, rfl, c, rfl, hc, hd, hp⟩
    rintro v v2 ⟨c, rfl, hc, hd, hp⟩
    have C2 := Lib.hid hc
    have D2 := Lib.hid hd
    have F2 := Lib.hid (F1.out.fp hp D1.out)
    have Q2 := Lib.hid (Q1.out.fp hp D1.out)
    have P2 := Lib.hid (P1.out.trans hp)
    have B2 := Lib.hid (B1.out.fp hp D1.out (by decide))
    have O2 := Lib.hid (O1.out.fp hp D1.out (by decide))
    have R2 := Lib.hid (R1.out.fp hp D1.out (by decide))
    clear Q1 D1 P1 B1 O1 R1 hc hd hp F1
    refine hK.out _ _ ⟨Or.inl (B2.out.c10), ?_⟩
    clear hK K
    try simp only [Act.put, List.setIfInBounds_toArray, List.set_cons_zero, List.set_cons_succ]
    refine anyE.one 9 rfl (by kernel_rfl) (by rfl) (fun K hK => ?_)
    refine doesAt_wp (K := fun v W => ∃ s : Fv, v = s.v ∧ s.Is W (Fm.scaleR (formQ n rr).1 (numQ (formQ n rr).2).1) ∧ Gr v2 W) (doesAt_enter (f := 25) (args := #[f.v, c.v]) (by go_simp; try (first | with_reducible rfl | rfl)) ((r7scale_any _ f c _ _ F2.out C2.out HSM.out.1 HSM.out.2 HNS.out HLN.out).mono ?_)) ?_
    · rintro e w' ⟨s, rfl, hs, G⟩
      exact ⟨_, rfl, s, rfl, hs, G⟩
    rintro v v3 ⟨s, rfl, hs, G⟩
    have S3 := Lib.hid hs
    have Q3 := Lib.hid (Q2.out.gr G)
    have D3 := Lib.hid (D2.out.gr G)
    have P3 := Lib.hid (P2.out.trans G.fp)
    have B3 := Lib.hid (G.bk B2.out)
    have O3 := Lib.hid (G.bk O2.out)
    have R3 := Lib.hid (G.bk R2.out)
    clear Q2 D2 P2 B2 O2 R2 hs G F2 C2
    refine hK.out _ _ ⟨Or.inl (B3.out.c10), ?_⟩
    clear hK K
    try simp only [Act.put, List.setIfInBounds_toArray, List.set_cons_zero, List.set_cons_succ]
    refine anyE.one 10 rfl (by kernel_rfl) (by rfl) (fun K hK => ?_)
    refine doesAt_wp (K := fun v W => ∃ y : Fv, v = y.v ∧ y.Is W (Fm.addR x.goal (Fm.scaleR (formQ n rr).1 (numQ (formQ n rr).2).1)) ∧ Gr v3 W) (doesAt_enter (f := 24) (args := #[qg.v, s.v]) (by go_simp; try (first | with_reducible rfl | rfl)) ((r7add_any _ qg s _ _ Q3.out.goal S3.out PRE.out.1 PRE.out.2.1 PRE.out.2.2.1 PRE.out.2.2.2.1 PRE.out.2.2.2.2.1 PRE.out.2.2.2.2.2).mono ?_)) ?_
    · rintro e w' ⟨y, rfl, hy, G⟩
      exact ⟨_, rfl, y, rfl, hy, G⟩
    rintro v v4 ⟨y, rfl, hy, G⟩
    have Y4 := Lib.hid hy
    have Q4 := Lib.hid (Q3.out.gr G)
    have D4 := Lib.hid (D3.out.gr G)
    have P4 := Lib.hid (P3.out.trans G.fp)
    have B4 := Lib.hid (G.bk B3.out)
    have O4 := Lib.hid (G.bk O3.out)
    have R4 := Lib.hid (G.bk R3.out)
    clear Q3 D3 P3 B3 O3 R3 hy G S3
    refine hK.out _ _ ⟨Or.inl (B4.out.c10), ?_⟩
    clear hK K
    try simp only [Act.put, List.setIfInBounds_toArray, List.set_cons_zero, List.set_cons_succ]
    have hS4 : (fun W => W.cell? ⟨w.heap.size, 0, none⟩ = some (.int .i64 (n : Int)) ∧ W.cell? ⟨w.heap.size, 1, none⟩ = some (.slice zu.A zu.n zu.c) ∧ W.cell? ⟨w.heap.size, 2, none⟩ = some (.slice zo.A zo.n zo.c) ∧ W.cell? ⟨w.heap.size, 3, none⟩ = some (.slice zl.A zl.n zl.c) ∧ W.cell? ⟨w.heap.size, 4, none⟩ = some (.slice zh.A zh.n zh.c) ∧ W.cell? ⟨w.heap.size, 5, none⟩ = some (.slice zr.A zr.n zr.c) ∧ W.cell? ⟨w.heap.size, 6, none⟩ = some (.slice qg.terms.A qg.terms.n qg.terms.c) ∧ W.cell? ⟨w.heap.size, 7, none⟩ = some (.bool qg.const.neg) ∧ W.cell? ⟨w.heap.size, 8, none⟩ = some (.slice qg.const.num.A qg.const.num.n qg.const.num.c) ∧ W.cell? ⟨w.heap.size, 9, none⟩ = some (.slice qg.const.den.A qg.const.den.n qg.const.den.c)) v4 := B4.out.c10
    refine anyE.takeL (i := 11) (v := ?wv8) rfl (by kernel_rfl) (by kernel_rfl) (by kernel_rfl) (fun _ _ _ h => h) (Or.inl ⟨by rfl, ?wy8⟩) hS4 ?wr8
    case wy8 => (intro w' hS'; obtain ⟨a0, a1, a2, a3, a4, a5, a6, a7, a8, a9⟩ := hS'; go_simp; try with_reducible rfl)
    try simp only [Act.put, List.setIfInBounds_toArray, List.set_cons_zero, List.set_cons_succ]
    clear hS4
    refine anyE.one 12 rfl (by kernel_rfl) (by rfl) (fun K hK => ?_)
    have fz5 := O4.out.frozen
    obtain ⟨o0, o1, o2, o3, o4, o5, o6, o7, o8, o9⟩ := O4.out.c10
    go_simp
    refine hK.out _ _ ⟨Or.inr (by kernel_rfl), ?_⟩
    clear hK K
    try simp only [Act.put, List.setIfInBounds_toArray, List.set_cons_zero, List.set_cons_succ]
    refine anyE.done (by kernel_rfl) ?_
    clear fz5 o0 o1 o2 o3 o4 o5 o6 o7 o8 o9
    obtain ⟨B5, F5⟩ := O4.out.put4of10 (.slice y.terms.A y.terms.n y.terms.c) (.bool y.const.neg) (.slice y.const.num.A y.const.num.n y.const.num.c) (.slice y.const.den.A y.const.den.n y.const.den.c)
    have Q5 := Lib.hid (Q4.out.st F5 O4.out (by decide) (by decide) (by decide) (by decide))
    have P5 := Lib.hid (P4.out.stp F5 (fun b _ e => Or.inr (by rw [e]; exact HNO.out)))
    have R5 := Lib.hid (F5.bk R4.out (fun e => HRO.out e))
    have Y5 := Lib.hid (Y4.out.tf' F5 O4.out (by decide) (by decide))
    have O5 := Lib.hid B5
    clear Q4 D4 P4 B4 O4 R4 B5 F5 Y4
    generalize (((v4.setCell ⟨ob, 6, none⟩ (.slice y.terms.A y.terms.n y.terms.c)).setCell ⟨ob, 7, none⟩ (.bool y.const.neg)).setCell ⟨ob, 8, none⟩ (.slice y.const.num.A y.const.num.n y.const.num.c)).setCell ⟨ob, 9, none⟩ (.slice y.const.den.A y.const.den.n y.const.den.c) = v5 at *
    obtain ⟨o0, o1, o2, o3, o4, o5, o6, o7, o8, o9⟩ := O5.out.c10
    obtain ⟨B5, F5⟩ := R5.out.put10 (.int .i64 (n : Int)) (.slice zu.A zu.n zu.c) (.slice zo.A zo.n zo.c) (.slice zl.A zl.n zl.c) (.slice zh.A zh.n zh.c) (.slice zr.A zr.n zr.c) (.slice y.terms.A y.terms.n y.terms.c) (.bool y.const.neg) (.slice y.const.num.A y.const.num.n y.const.num.c) (.slice y.const.den.A y.const.den.n y.const.den.c)
    have H5 := Lib.hid F5
    obtain ⟨d0, d1, d2, d3, d4, d5, d6, d7, d8, d9⟩ := B5.c10
    clear F5 B5
    obtain ⟨z0, z1, z2, z3, z4, z5, z6, z7, z8, z9⟩ := R5.out.c10
    have fz := R5.out.frozen
    go_wp2
    generalize (((((((((v5.setCell ⟨rb, 0, none⟩ (.int .i64 (n : Int))).setCell ⟨rb, 1, none⟩ (.slice zu.A zu.n zu.c)).setCell ⟨rb, 2, none⟩ (.slice zo.A zo.n zo.c)).setCell ⟨rb, 3, none⟩ (.slice zl.A zl.n zl.c)).setCell ⟨rb, 4, none⟩ (.slice zh.A zh.n zh.c)).setCell ⟨rb, 5, none⟩ (.slice zr.A zr.n zr.c)).setCell ⟨rb, 6, none⟩ (.slice y.terms.A y.terms.n y.terms.c)).setCell ⟨rb, 7, none⟩ (.bool y.const.neg)).setCell ⟨rb, 8, none⟩ (.slice y.const.num.A y.const.num.n y.const.num.c)).setCell ⟨rb, 9, none⟩ (.slice y.const.den.A y.const.den.n y.const.den.c) = W5 at *
    (try simp only [Exit.inBlock, Exit.then])
    refine bodyPost_ret (by simp [results, Tryz.results11, go_sem, d0, d1, d2, d3, d4, d5, d6, d7, d8, d9]; try rfl) rfl ?_
    have HQ : changedQ x L = ⟨x.g, x.rg, Fm.addR x.goal (Fm.scaleR (formQ n rr).1 (numQ (formQ n rr).2).1)⟩ := by
      unfold changedQ
      rw [HLU.out, HK.out, if_pos rfl, HN0.out, HRR.out]
    rw [HQ]
    exact ⟨⟨⟨n, zu, zo⟩, zl, zh, zr, y⟩, rfl, ⟨Q5.out.g.st H5.out R5.out (by decide) (by decide) (by decide), Q5.out.rg.st H5.out R5.out (by decide) (by decide) (by decide) (by decide), Y5.out.tf' H5.out R5.out (by decide) (by decide)⟩, gr_of_fp HFN.out (P5.out.stp H5.out (fun b _ e => Or.inr (by rw [e]; exact HNR.out)))⟩
  · have hkk : ((k : Int) == (zu.n : Int)) = false := by simp; omega
    have hkl : k < zu.n := by omega
    clear hkz
    have HKN : Hid (¬ k = zu.n) := Lib.hid (by omega)
    obtain ⟨ux, hux⟩ : ∃ u, x.g.units[k]? = some u := ⟨_, List.getElem?_eq_getElem (by rw [HLU.out]; exact hkl)⟩
    have HUK := Lib.hid hux
    have hU := Q_.out.g.units
    obtain ⟨_, ad, _, hA, _⟩ := hU.at hux
    obtain ⟨ts, t1, t2, t3, _⟩ := hU
    obtain ⟨zuA, un, uc⟩ := zu
    simp only at hA
    subst hA
    have HC : Hid (∀ j u, (ts.flatMap fun p => p.1.cs)[j]? = some u → (w3.alloc (.cells #[] 43)).cell? (ad.add j) = some u) := (t1.gr ((Gr.refl w3).alloc _)).cells rfl
    have HU : Hid (∀ u ∈ ts.flatMap (fun p => p.1.cs), u.oneCell' = true) := fun u hu => by
      obtain ⟨p, _, hp⟩ := List.mem_flatMap.1 hu
      exact Fv.one p.1 u hp
    have H1 := Lib.hid t1.len
    have HT2 := Lib.hid t2
    have HT3 := Lib.hid t3
    have HKL : Hid (0 < un) := Lib.hid (Nat.lt_of_le_of_lt (Nat.zero_le _) hkl)
    simp only at H1
    have HO : Hid ((w3.alloc (.cells #[] 43)).ownsRow w3.heap.size 43 4 (.slice (some ⟨w3.heap.size, 0, none⟩) 0 0) 0 []) := ⟨rfl, .inr ⟨w3.heap.size, 0, #[], rfl, Nat.le_refl _, Bk.made _ _ _, Nat.le_refl _, Nat.zero_le _, rfl, rfl⟩⟩
    have HW3 := Lib.hid (P_.out.size)
    have hnk : IntKind.i64.wrap ((n : Int) + (k : Int)) = ((n + k : Nat) : Int) := by rw [IntWalk.i64_in _ (by omega)]; omega
    clear hux t1 t2 t3
    simp only at hkl hu99 hkk
    have BA := ((Gr.refl w3).alloc (.cells #[] 43)).bk B_.out
    obtain ⟨k0, k1, k2, k3, k4, k5, k6, k7, k8, k9⟩ := BA.c10
    clear BA
    go_upto_region 8 with (at_builtin; refine wpList_appS elemF rfl _ _ rfl w3.heap.size (.slice (some ⟨w3.heap.size, 0, none⟩) 0 0) 0 [] rfl HO.out ad un uc (ts.flatMap fun p => p.1.cs) rfl H1.out HC.out HU.out (by unfold maxLen; omega) (by omega) (by simp) ?_; intro v' w4 h2 h3 h5; rw [Nat.zero_add, List.nil_append] at h2; obtain ⟨yb, yc, rfl⟩ := own_form h2 HKL.out; have GG := Lib.hid (Gr.of_own h3); have O3 := Lib.hid (GG.out.bk O_.out); have fz := O3.out.frozen; have o1 := O3.out.c10.2.1; have HY := Lib.hid h2; clear h2 h3 h5)
    obtain ⟨B5, F5⟩ := O3.out.put1of10 (.slice (some ⟨yb, 0, none⟩) un yc)
    have A5 : Hid (OwnF _ w3.heap.size ⟨some ⟨yb, 0, none⟩, un, yc⟩ x.g.units) := Lib.hid (OwnF.st (x := ⟨some ⟨yb, 0, none⟩, un, yc⟩) ⟨ts, HY.out, HT2.out, fun p hp => (HT3.out p hp).gr GG.out⟩ F5 O3.out (by decide) (by decide) (by decide))
    have K5 := Lib.hid (((Fr.refl (fun b => b = fb ∨ b = ob) w3).ext GG.out.fr (fun _ _ h => h.elim)).ext F5 (fun b _ e => .inl (.inr e)))
    have D5 := Lib.hid ((D_.out.gr GG.out).st F5 O3.out (by decide) (by decide))
    have P5 := Lib.hid ((P_.out.trans GG.out.fp).stp F5 (fun b _ e => Or.inr (by rw [e]; exact HNO.out)))
    have B6 := Lib.hid (F5.bk (GG.out.bk B_.out) HPO.out)
    have R5 := Lib.hid (F5.bk (GG.out.bk R_.out) HRO.out)
    have O5 := Lib.hid B5
    clear B5 F5 O3 HY HT2 HT3 GG HC HU HO H1 fz o1 B_ R_ P_ HPO HRO a0 a1 a2 a3 a4 a5 a6 a7 a8 a9 k0 k1 k2 k3 k4 k5 k6 k7 k8 k9
    generalize w4.setCell ⟨ob, 1, none⟩ (.slice (some ⟨yb, 0, none⟩) un yc) = W6 at *
    have GD := (Gr.refl W6).drew
    have K0 := Lib.hid (K5.out.ext GD.fr (fun _ _ h => h.elim))
    have A0 := Lib.hid (OwnF.up A5.out GD)
    have D0 := Lib.hid (D5.out.gr GD)
    have P0 := Lib.hid (P5.out.trans GD.fp)
    have B0 := Lib.hid (GD.bk B6.out)
    have O0 := Lib.hid (GD.bk O5.out)
    have R0 := Lib.hid (GD.bk R5.out)
    clear GD K5 A5 D5 P5 B6 O5 R5
    have hS0 : (fun W => W.cell? ⟨w.heap.size, 0, none⟩ = some (.int .i64 (n : Int)) ∧ W.cell? ⟨ob, 1, none⟩ = some (.slice (some ⟨yb, 0, none⟩) un yc)) W6.drew := ⟨B0.out.c10.1, O0.out.c10.2.1⟩
    refine wp_region_E (fun W => W.cell? ⟨w.heap.size, 0, none⟩ = some (.int .i64 (n : Int)) ∧ W.cell? ⟨ob, 1, none⟩ = some (.slice (some ⟨yb, 0, none⟩) un yc)) (by kernel_rfl) ?_
    show anyE _ _ _ _ 13 _ _ _
    generalize W6.drew = v0 at *
    refine anyE.takeL (i := 0) (v := ?wv9) rfl (by kernel_rfl) (by kernel_rfl) (by kernel_rfl) (fun _ _ _ h => h) (Or.inl ⟨by rfl, ?wy9⟩) hS0 ?wr9
    case wy9 => (intro w' hS'; obtain ⟨a0, b1⟩ := hS'; go_simp; try with_reducible rfl)
    try simp only [Act.put, List.setIfInBounds_toArray, List.set_cons_zero, List.set_cons_succ]
    refine anyE.takeL (i := 1) (v := ?wv10) rfl (by kernel_rfl) (by kernel_rfl) (by kernel_rfl) (fun _ _ _ h => h) (Or.inl ⟨by rfl, ?wy10⟩) hS0 ?wr10
    case wy10 => (intro w' hS'; obtain ⟨a0, b1⟩ := hS'; go_simp; try with_reducible rfl)
    try simp only [Act.put, List.setIfInBounds_toArray, List.set_cons_zero, List.set_cons_succ]
    refine anyE.takeL (i := 2) (v := ?wv11) rfl (by kernel_rfl) (by kernel_rfl) (by kernel_rfl) (fun _ _ _ h => h) (Or.inl ⟨by rfl, ?wy11⟩) hS0 ?wr11
    case wy11 => (intro w' hS'; obtain ⟨a0, b1⟩ := hS'; go_simp; try with_reducible rfl)
    try simp only [Act.put, List.setIfInBounds_toArray, List.set_cons_zero, List.set_cons_succ]
    refine anyE.takeL (i := 3) (v := ?wv12) rfl (by kernel_rfl) (by kernel_rfl) (by kernel_rfl) (fun _ _ _ h => h) (Or.inl ⟨by rfl, ?wy12⟩) hS0 ?wr12
    case wy12 => (intro w' hS'; obtain ⟨a0, b1⟩ := hS'; go_simp; try with_reducible rfl)
    try simp only [Act.put, List.setIfInBounds_toArray, List.set_cons_zero, List.set_cons_succ]
    refine anyE.takeL (i := 4) (v := ?wv13) rfl (by kernel_rfl) (by kernel_rfl) (by kernel_rfl) (fun _ _ _ h => h) (Or.inl ⟨by rfl, ?wy13⟩) hS0 ?wr13
    case wy13 => (intro w' hS'; obtain ⟨a0, b1⟩ := hS'; go_simp; try with_reducible rfl)
    try simp only [Act.put, List.setIfInBounds_toArray, List.set_cons_zero, List.set_cons_succ]
    refine anyE.takeL (i := 5) (v := ?wv14) rfl (by kernel_rfl) (by kernel_rfl) (by kernel_rfl) (fun _ _ _ h => h) (Or.inl ⟨by rfl, ?wy14⟩) hS0 ?wr14
    case wy14 => (intro w' hS'; obtain ⟨a0, b1⟩ := hS'; go_simp; try with_reducible rfl)
    try simp only [Act.put, List.setIfInBounds_toArray, List.set_cons_zero, List.set_cons_succ]
    refine anyE.takeL (i := 6) (v := ?wv15) rfl (by kernel_rfl) (by kernel_rfl) (by kernel_rfl) (fun _ _ _ h => h) (Or.inl ⟨by rfl, ?wy15⟩) hS0 ?wr15
    case wy15 => (intro w' hS'; obtain ⟨a0, b1⟩ := hS'; go_simp; try with_reducible rfl)
    try simp only [Act.put, List.setIfInBounds_toArray, List.set_cons_zero, List.set_cons_succ]
    refine anyE.takeL (i := 7) (v := ?wv16) rfl (by kernel_rfl) (by kernel_rfl) (by kernel_rfl) (fun _ _ _ h => h) (Or.inl ⟨by rfl, ?wy16⟩) hS0 ?wr16
    case wy16 => (intro w' hS'; obtain ⟨a0, b1⟩ := hS'; go_simp; try with_reducible rfl)
    try simp only [Act.put, List.setIfInBounds_toArray, List.set_cons_zero, List.set_cons_succ]
    refine anyE.takeL (i := 8) (v := ?wv17) rfl (by kernel_rfl) (by kernel_rfl) (by kernel_rfl) (fun _ _ _ h => h) (Or.inl ⟨by rfl, ?wy17⟩) hS0 ?wr17
    case wy17 => (intro w' hS'; obtain ⟨a0, b1⟩ := hS'; go_simp; try with_reducible rfl)
    try simp only [Act.put, List.setIfInBounds_toArray, List.set_cons_zero, List.set_cons_succ]
    refine anyE.takeL (i := 9) (v := ?wv18) rfl (by kernel_rfl) (by kernel_rfl) (by kernel_rfl) (fun _ _ _ h => h) (Or.inl ⟨by rfl, ?wy18⟩) hS0 ?wr18
    case wy18 => (intro w' hS'; obtain ⟨a0, b1⟩ := hS'; go_simp; try with_reducible rfl)
    try simp only [Act.put, List.setIfInBounds_toArray, List.set_cons_zero, List.set_cons_succ]
    refine anyE.one 10 rfl (by kernel_rfl) (by rfl) (fun K hK => ?_)
    refine doesAt_wp (K := fun v W => ∃ f : Fv, v = f.v ∧ f.Is W (formQ (n + k) rr).1 ∧ Fd W fb (formQ (n + k) rr).2 ∧ Fp fb v0 W) (doesAt_enter (f := 26) (args := #[.pointer (some ⟨fb, 0, none⟩), .int .i64 ((n + k : Nat) : Int)]) (by go_simp; try (first | with_reducible rfl | rfl)) ((form_any _ fb (n + k) _ D0.out (by omega)).mono ?_)) ?_
    · rintro e w' ⟨f, rfl, hf, hd, hp⟩
      exact ⟨_, rfl, f, rfl, hf, hd, hp⟩
    rintro v v1 ⟨f, rfl, hf, hd, hp⟩
    have F1 := Lib.hid hf
    have D1 := Lib.hid hd
    have K1 := Lib.hid (K0.out.ext hp (fun b _ e => .inl (.inl e)))
    have A1 := Lib.hid (A0.out.fp hp D0.out)
    have P1 := Lib.hid (P0.out.trans hp)
    have B1 := Lib.hid (B0.out.fp hp D0.out (by decide))
    have O1 := Lib.hid (O0.out.fp hp D0.out (by decide))
    have R1 := Lib.hid (R0.out.fp hp D0.out (by decide))
    clear K0 A0 D0 P0 B0 O0 R0 hf hd hp hS0
    refine hK.out _ _ ⟨Or.inl (⟨B1.out.c10.1, O1.out.c10.2.1⟩), ?_⟩
    clear hK K
    try simp only [Act.put, List.setIfInBounds_toArray, List.set_cons_zero, List.set_cons_succ]
    have hS1 : (fun W => W.cell? ⟨w.heap.size, 0, none⟩ = some (.int .i64 (n : Int)) ∧ W.cell? ⟨ob, 1, none⟩ = some (.slice (some ⟨yb, 0, none⟩) un yc)) v1 := ⟨B1.out.c10.1, O1.out.c10.2.1⟩
    refine anyE.takeL (i := 11) (v := ?wv19) rfl (by kernel_rfl) (by kernel_rfl) (by kernel_rfl) (fun _ _ _ h => h) (Or.inl ⟨by rfl, ?wy19⟩) hS1 ?wr19
    case wy19 => (intro w' hS'; obtain ⟨a0, b1⟩ := hS'; go_simp; try with_reducible rfl)
    try simp only [Act.put, List.setIfInBounds_toArray, List.set_cons_zero, List.set_cons_succ]
    clear hS1
    obtain ⟨bs, x0, x1, x2, x3, hbk, hB9, c0, c1, c2, c3, hset⟩ := A1.out.set4 HUK.out f
    have fz5 := hbk.frozen
    refine anyE.one 12 rfl (by kernel_rfl) (by rfl) (fun K hK => ?_)
    go_simp
    refine hK.out _ _ ⟨Or.inr (by kernel_rfl), ?_⟩
    clear hK K
    try simp only [Act.put, List.setIfInBounds_toArray, List.set_cons_zero, List.set_cons_succ]
    refine anyE.done (by kernel_rfl) ?_
    obtain ⟨hA2, hF⟩ := hset _ F1.out
    generalize (((v1.setCell ⟨yb, k * 4, none⟩ (.slice f.terms.A f.terms.n f.terms.c)).setCell ⟨yb, k * 4 + 1, none⟩ (.bool f.const.neg)).setCell ⟨yb, k * 4 + 2, none⟩ (.slice f.const.num.A f.const.num.n f.const.num.c)).setCell ⟨yb, k * 4 + 3, none⟩ (.slice f.const.den.A f.const.den.n f.const.den.c) = v2 at *
    have A2 := Lib.hid (OwnF.forms hA2)
    have Q2 := Lib.hid (Q_.out.pg (K1.out.ext hF (fun b _ e => .inr (by rw [e]; exact hB9))) D_.out O_.out)
    have R2 := Lib.hid (hF.bk R1.out (Bk.ne R1.out hbk (by decide)))
    have O2 := Lib.hid (hF.bk O1.out (Bk.ne O1.out hbk (by decide)))
    have P2 := Lib.hid (P1.out.stp hF (fun b _ e => Or.inr (by rw [e]; exact Nat.le_trans HW3.out hB9)))
    clear hA2 hF hset c0 c1 c2 c3 fz5 hbk R1 O1 P1 A1 D1 B1 F1 K1 Q_ D_ O_
    obtain ⟨o0, o1, o2, o3, o4, o5, o6, o7, o8, o9⟩ := O2.out.c10
    obtain ⟨B5, F5⟩ := R2.out.put10 (.int .i64 (n : Int)) (.slice (some ⟨yb, 0, none⟩) un yc) (.slice zo.A zo.n zo.c) (.slice zl.A zl.n zl.c) (.slice zh.A zh.n zh.c) (.slice zr.A zr.n zr.c) (.slice qg.terms.A qg.terms.n qg.terms.c) (.bool qg.const.neg) (.slice qg.const.num.A qg.const.num.n qg.const.num.c) (.slice qg.const.den.A qg.const.den.n qg.const.den.c)
    have H5 := Lib.hid F5
    obtain ⟨d0, d1, d2, d3, d4, d5, d6, d7, d8, d9⟩ := B5.c10
    clear F5 B5
    obtain ⟨z0, z1, z2, z3, z4, z5, z6, z7, z8, z9⟩ := R2.out.c10
    have fz := R2.out.frozen
    go_wp2
    generalize (((((((((v2.setCell ⟨rb, 0, none⟩ (.int .i64 (n : Int))).setCell ⟨rb, 1, none⟩ (.slice (some ⟨yb, 0, none⟩) un yc)).setCell ⟨rb, 2, none⟩ (.slice zo.A zo.n zo.c)).setCell ⟨rb, 3, none⟩ (.slice zl.A zl.n zl.c)).setCell ⟨rb, 4, none⟩ (.slice zh.A zh.n zh.c)).setCell ⟨rb, 5, none⟩ (.slice zr.A zr.n zr.c)).setCell ⟨rb, 6, none⟩ (.slice qg.terms.A qg.terms.n qg.terms.c)).setCell ⟨rb, 7, none⟩ (.bool qg.const.neg)).setCell ⟨rb, 8, none⟩ (.slice qg.const.num.A qg.const.num.n qg.const.num.c)).setCell ⟨rb, 9, none⟩ (.slice qg.const.den.A qg.const.den.n qg.const.den.c) = W5 at *
    (try simp only [Exit.inBlock, Exit.then])
    refine bodyPost_ret (by simp [results, Tryz.results11, go_sem, d0, d1, d2, d3, d4, d5, d6, d7, d8, d9]; try rfl) rfl ?_
    have HQ : changedQ x L = ⟨x.g.put k (formQ (n + k) rr).1, x.rg, x.goal⟩ := by
      unfold changedQ
      rw [HLU.out, HK.out, if_neg HKN.out, HN0.out, HRR.out]
    rw [HQ]
    exact ⟨⟨⟨n, ⟨some ⟨yb, 0, none⟩, un, yc⟩, zo⟩, zl, zh, zr, qg⟩, rfl, ⟨⟨by show (n : Int) = ((x.g.inputs : Nat) : Int); rw [HN0.out], A2.out.st H5.out R2.out (by decide) (by decide) (by decide), Q2.out.g.outs.st H5.out R2.out (by decide) (by decide) (by decide)⟩, Q2.out.rg.st H5.out R2.out (by decide) (by decide) (by decide) (by decide), Q2.out.goal.tf' H5.out R2.out (by decide) (by decide)⟩, gr_of_fp HFN.out (P2.out.stp H5.out (fun b _ e => Or.inr (by rw [e]; exact HNR.out)))⟩
end Go.Proofs.YtcmfepaffhnemaaGreatDoor

set_option linter.unusedVariables false
namespace Go.Proofs.YtcmfepaffhnemaaGreatDoor
open Go.RowKit

attribute [local go_sem] Oper.semAt_some

theorem Fm.Qt.up {f : Fm} {m n : Nat} (h : f.Qt m) (hm : m ≤ n) : f.Qt n := ⟨Nat.le_trans h.len hm, h.each, h.const⟩
theorem queryQ_goal (r : List Nat) : (queryQ r).1.goal.Qt 100 := by
  have h := graphQ_ok r
  have h1 := h.i9
  have h2 := h.u9
  exact (formQ_qt _ _).up (by omega)
set_option maxRecDepth 100000 in
set_option maxHeartbeats 4000000 in
theorem law_differs (w : World) (a b : Sv) (L M : List Nat) (ha : a.Is w 1 (L.map bv)) (hb : b.Is w 1 (M.map bv)) (hl : ∀ y ∈ L, y < 256) (hm : ∀ y ∈ M, y < 256) :
    Calls Tryz.prog 4 #[.slice a.A a.n a.c, .slice b.A b.n b.c] w fun e w' => e = .returned (.bool true) ∧ Gr w w' := by
  have HA := Lib.hid ha
  have HB := Lib.hid hb
  have HL := Lib.hid hl
  have HM := Lib.hid hm
  clear ha hb hl hm
  go_enter Tryz.func4, Tryz.ntmps4
  go_wp2_with fail
  refine (awake0 w).mono ?_
  rintro e w1 ⟨rfl, G⟩
  have HG := Lib.hid G
  clear G
  by_cases hn : 300 < a.n
  · have hd : decide ((300 : Int) < (a.n : Int)) = true := by simp; omega
    have hd2 : decide (300 < a.n) = true := by simp; omega
    go_wp2
    go_ret
    exact ⟨rfl, HG.out⟩
  have hd : decide ((300 : Int) < (a.n : Int)) = false := by simp; omega
  have hd2 : decide (300 < a.n) = false := by simp; omega
  by_cases hn2 : 60 < b.n
  · have hd3 : decide ((60 : Int) < (b.n : Int)) = true := by simp; omega
    have hd4 : decide (60 < b.n) = true := by simp; omega
    go_wp2
    go_ret
    exact ⟨rfl, HG.out⟩
  have hd3 : decide ((60 : Int) < (b.n : Int)) = false := by simp; omega
  have hd4 : decide (60 < b.n) = false := by simp; omega
  have HN1 : Hid (a.n ≤ 1000) := Lib.hid (by omega)
  have HN2 : Hid (b.n ≤ 1000) := Lib.hid (by omega)
  clear hn hn2
  go_wp2_with fail
  refine (instance_any w1 a L (HA.out.gr HG.out) HL.out HN1.out).mono ?_
  rintro e w2 ⟨⟨⟨qi, qu, qo⟩, ql, qh, qr, qg⟩, rfl, hq, G⟩
  obtain ⟨B1, GB⟩ := made1 w2 45 #[.int .i64 qi, .slice qu.A qu.n qu.c, .slice qo.A qo.n qo.c, .slice ql.A ql.n ql.c, .slice qh.A qh.n qh.c, .slice qr.A qr.n qr.c, .slice qg.terms.A qg.terms.n qg.terms.c, .bool qg.const.neg, .slice qg.const.num.A qg.const.num.n qg.const.num.c, .slice qg.const.den.A qg.const.den.n qg.const.den.c]
  have HQ := Lib.hid (hq.gr GB)
  have HB1 := Lib.hid (((HB.out.gr HG.out).gr G).gr GB)
  replace HG := Lib.hid ((HG.out.trans G).trans GB)
  have D1 := Lib.hid B1
  have HOK := Lib.hid (queryQ_ok L)
  have HGL := Lib.hid (queryQ_goal L)
  clear hq G B1 GB HA HB HL HN1
  simp only [Qv.v]
  go_upto_region 6 with fail
  generalize w2.alloc (.cells #[.int .i64 qi, .slice qu.A qu.n qu.c, .slice qo.A qo.n qo.c, .slice ql.A ql.n ql.c, .slice qh.A qh.n qh.c, .slice qr.A qr.n qr.c, .slice qg.terms.A qg.terms.n qg.terms.c, .bool qg.const.neg, .slice qg.const.num.A qg.const.num.n qg.const.num.c, .slice qg.const.den.A qg.const.den.n qg.const.den.c] 45) = w3 at *
  generalize w2.heap.size = c at *
  generalize (queryQ L).1 = X at *
  obtain ⟨x0, x1, x2, x3, x4, x5, x6, x7, x8, x9⟩ := D1.out.c10
  go_wp2_with fail
  refine (changed_any w3 ⟨⟨qi, qu, qo⟩, ql, qh, qr, qg⟩ X b M HQ.out HB1.out HM.out HN2.out HOK.out HGL.out).mono ?_
  rintro e w4 ⟨⟨⟨pi, pu, po⟩, pl, ph, pr, pg⟩, rfl, hp, G⟩
  obtain ⟨B1, GB⟩ := made1 w4 45 #[.int .i64 pi, .slice pu.A pu.n pu.c, .slice po.A po.n po.c, .slice pl.A pl.n pl.c, .slice ph.A ph.n ph.c, .slice pr.A pr.n pr.c, .slice pg.terms.A pg.terms.n pg.terms.c, .bool pg.const.neg, .slice pg.const.num.A pg.const.num.n pg.const.num.c, .slice pg.const.den.A pg.const.den.n pg.const.den.c]
  have HP := Lib.hid (hp.gr GB)
  have D2 := Lib.hid B1
  replace HQ := Lib.hid ((HQ.out.gr G).gr GB)
  replace D1 := Lib.hid (GB.bk (G.bk D1.out))
  replace HG := Lib.hid ((HG.out.trans G).trans GB)
  have DF := Lib.hid (differs X M)
  have VX := Lib.hid HOK.out.va
  have VY := Lib.hid (changedQ_ok HOK.out M).va
  clear hp G B1 GB HB1 HM HN2 HOK HGL x0 x1 x2 x3 x4 x5 x6 x7 x8 x9
  simp only [Qv.v]
  go_upto_region 7 with fail
  generalize w4.alloc (.cells #[.int .i64 pi, .slice pu.A pu.n pu.c, .slice po.A po.n po.c, .slice pl.A pl.n pl.c, .slice ph.A ph.n ph.c, .slice pr.A pr.n pr.c, .slice pg.terms.A pg.terms.n pg.terms.c, .bool pg.const.neg, .slice pg.const.num.A pg.const.num.n pg.const.num.c, .slice pg.const.den.A pg.const.den.n pg.const.den.c] 45) = w5 at *
  generalize w4.heap.size = d at *
  generalize (changedQ X M) = Y at *
  obtain ⟨x0, x1, x2, x3, x4, x5, x6, x7, x8, x9⟩ := D1.out.c10
  obtain ⟨y0, y1, y2, y3, y4, y5, y6, y7, y8, y9⟩ := D2.out.c10
  go_wp2_with fail
  refine (diff_any w5 ⟨qi, qu, qo⟩ ⟨pi, pu, po⟩ X.g Y.g HQ.out.g HP.out.g VX.out VY.out).mono ?_
  rintro e w6 ⟨u, o, rfl, hu, ho, G⟩
  obtain ⟨h0, h1, h2, h3⟩ := DF.out
  rw [h1] at ho
  rw [h0]
  have hun := hu.len
  have hon : 0 = o.n := ho.len
  rw [hun] at h2 h3
  have H3 := Lib.hid h3
  obtain ⟨uA, un, uc⟩ := u
  obtain ⟨oA, on, oc⟩ := o
  simp only at hon h2 H3
  subst hon
  replace HG := Lib.hid (HG.out.trans G)
  replace HQ := Lib.hid (HQ.out.gr G)
  replace HP := Lib.hid (HP.out.gr G)
  replace D1 := Lib.hid (G.bk D1.out)
  replace D2 := Lib.hid (G.bk D2.out)
  clear DF VX VY hu ho h0 h1 h3 hun G x0 y0 x1 y1 x2 y2 x3 y3 x4 y4 x5 y5 x6 y6 x7 y7 x8 y8 x9 y9
  obtain ⟨x0, x1, x2, x3, x4, x5, x6, x7, x8, x9⟩ := D1.out.c10
  obtain ⟨y0, y1, y2, y3, y4, y5, y6, y7, y8, y9⟩ := D2.out.c10
  simp only [Sv.v]
  have hl1 : decide ((1 : Int) < (un : Int)) = false := by simp; omega
  have hl2 : decide (1 < un) = false := by simp; omega
  go_wp2_with fail
  refine (r15equal_any w6 ⟨qi, qu, qo⟩ ⟨pi, pu, po⟩ X.g Y.g HQ.out.g HP.out.g).mono ?_
  rintro e w7 ⟨rfl, G⟩
  replace HG := Lib.hid (HG.out.trans G)
  clear G x0 y0 x1 y1 x2 y2 x3 y3 x4 y4 x5 y5 x6 y6 x7 y7 x8 y8 x9 y9 D1 D2 HQ HP
  generalize decide (X.g = Y.g) = t at *
  obtain rfl | rfl : un = 0 ∨ un = 1 := by omega
  · have ht : t = true := by have := H3.out; simpa using this
    subst ht
    go_wp2
    go_ret
    exact ⟨rfl, HG.out⟩
  · have ht : t = false := by have := H3.out; simpa using this
    subst ht
    go_wp2
    go_ret
    exact ⟨rfl, HG.out⟩
end Go.Proofs.YtcmfepaffhnemaaGreatDoor

set_option linter.unusedVariables false
namespace Go.Proofs.YtcmfepaffhnemaaGreatDoor
open Go.RowKit

/-- The law on what came in. -/
theorem law_differs_in (w : World) (a0 a1 : Option Addr) (len0 cap0 len1 cap1 : Nat) (zs0 zs1 : List Int) (h0 : IsRow .u8 w a0 len0 cap0 zs0) (h1 : IsRow .u8 w a1 len1 cap1 zs1) :
    Calls Tryz.prog 4 #[.slice a0 len0 cap0, .slice a1 len1 cap1] w fun e w' => e = .returned (.bool true) ∧ Below w.heap.size w w' :=
  (law_differs w ⟨a0, len0, cap0⟩ ⟨a1, len1, cap1⟩ (bytesOf zs0 len0) (bytesOf zs1 len1) h0.is h1.is h0.lim h1.lim).mono fun e w' ⟨he, hg⟩ => ⟨he, hg.below⟩
end Go.Proofs.YtcmfepaffhnemaaGreatDoor
