/- A group that is over or open, pages that are none and records that may not be are refused, and a record that was done is read back; the conditions are those of the given statement, for arguments that a machine can hold. Part 18 of 44. -/
import Derived.Test.YtconhghphklfjaaGreatE17
namespace Go.Proofs.YtconhghphklfjaaGreat.Am
open Go
abbrev PM := Nat → Option Obj
def PM.le (a b : PM) : Prop := ∀ i o, a i = some o → b i = some o
def PM.dj (a b : PM) : Prop := ∀ i, a i = none ∨ b i = none
def PM.upd (m : PM) (id : Nat) (o : Option Obj) : PM := fun i => if i = id then o else m i
def PM.un (a b : PM) : PM := fun i => (a i).orElse fun _ => b i
theorem PM.le_refl (a : PM) : a.le a := fun _ _ h => h
theorem PM.le_trans {a b c : PM} (x : a.le b) (y : b.le c) : a.le c := fun i o h => y i o (x i o h)
theorem PM.dj_sub {a b a' b' : PM} (hd : a.dj b) (ha : a'.le a) (hb : b'.le b) : a'.dj b' := by
 intro i
 rcases hd i with h | h
 ·left
  cases h1 : a' i with
  | none => rfl
  | some o => rw [ha i o h1] at h; cases h
 ·right
  cases h1 : b' i with
  | none => rfl
  | some o => rw [hb i o h1] at h; cases h
theorem PM.dj_symm {a b : PM} (h : a.dj b) : b.dj a := fun i => (h i).symm
theorem PM.un_l (a b : PM) : a.le (a.un b) := fun i o h => by simp [PM.un, h]
theorem PM.un_r {a b : PM} (hd : a.dj b) : b.le (a.un b) := fun i o h => by
 rcases hd i with h1 | h1
 ·simp [PM.un, h1, h]
 ·rw [h] at h1; cases h1
theorem PM.un_le {a b c : PM} (ha : a.le c) (hb : b.le c) : (a.un b).le c := fun i o h => by
 simp only [PM.un] at h
 cases h1 : a i with
 | none => rw [h1] at h; exact hb i o h
 | some x => rw [h1] at h; injection h with h; subst h; exact ha i _ h1
theorem PM.un_dj {a b c : PM} (ha : a.dj c) (hb : b.dj c) : (a.un b).dj c := fun i => by
 rcases ha i with h | h
 ·rcases hb i with h2 | h2
  ·left; simp [PM.un, h, h2]
  ·right; exact h2
 ·right; exact h
def ViewM (m : PM) (v : V) (l : List Nat) : Prop := (∀ b ∈ l, b < 256) ∧ (((v = .sl0 ∨ ∃ a, v = .sle a) ∧ l = []) ∨
 ∃ id off cap n cs st, v = .sl id off l.length cap ∧ m id = some (.cells n cs st) ∧ cs.length = n ∧ off + l.length ≤ n ∧ (cs.drop off).take l.length = ofBytes l ∧
  (match cap with | .exact c => l.length ≤ c | .rest e _ => e = 1))
def BufM (m : PM) (v : V) (l : List Nat) : Prop := (∀ b ∈ l, b < 256) ∧ ((v = .sl0 ∧ l = []) ∨
 (∃ id cs c, v = .sl id 0 l.length (.exact c) ∧ m id = some (.cells c (ofBytes l ++ cs) false) ∧ l.length + cs.length = c) ∨
 (∃ id, v = .sl id 0 l.length (.rest 1 0) ∧ m id = some (.cells l.length (ofBytes l) false) ∧ 1 ≤ l.length))
theorem ViewM.up {m m' : PM} {v : V} {l : List Nat} (h : ViewM m v l) (hm : PM.le m m') : ViewM m' v l := by
 obtain ⟨h1, h2⟩ := h
 refine ⟨h1, ?_⟩
 rcases h2 with h2 | ⟨id, off, cap, n, cs, st, e, hg, h3⟩
 ·exact .inl h2
 ·exact .inr ⟨id, off, cap, n, cs, st, e, hm _ _ hg, h3⟩
theorem BufM.up {m m' : PM} {v : V} {l : List Nat} (h : BufM m v l) (hm : PM.le m m') : BufM m' v l := by
 obtain ⟨h1, h2⟩ := h
 refine ⟨h1, ?_⟩
 rcases h2 with h2 | ⟨id, cs, c, e, hg, h3⟩ | ⟨id, e, hg, h3⟩
 ·exact .inl h2
 ·exact .inr (.inl ⟨id, cs, c, e, hm _ _ hg, h3⟩)
 ·exact .inr (.inr ⟨id, e, hm _ _ hg, h3⟩)
theorem BufM.view {m : PM} {v : V} {l : List Nat} (hb : BufM m v l) : ViewM m v l := by
 obtain ⟨hl, hb⟩ := hb
 refine ⟨hl, ?_⟩
 rcases hb with hb | ⟨id, cs, c, rfl, hg, hc⟩ | ⟨id, rfl, hg, h1⟩
 ·exact .inl ⟨.inl hb.1, hb.2⟩
 ·refine .inr ⟨id, 0, .exact c, c, _, false, rfl, hg, by simp [ofBytes_len, hc], by omega, ?_, by show l.length ≤ c; omega⟩
  rw [List.drop_zero, List.take_left' (ofBytes_len l)]
 ·refine .inr ⟨id, 0, .rest 1 0, _, _, false, rfl, hg, ofBytes_len l, by omega, ?_, rfl⟩
  rw [List.drop_zero]
  exact List.take_of_length_le (by rw [ofBytes_len]; exact Nat.le_refl _)
def ArrM (m : PM) (k : Nat) (v : V) (cs : List V) : Prop := cs.all storable = true ∧ ((v = .sl0 ∧ cs = []) ∨
 ∃ id n cap N rest, v = .sl id 0 n cap ∧ m id = some (.cells N (cs ++ rest) false) ∧ cs.length = n * k ∧ cs.length + rest.length = N ∧ rest.all storable = true ∧
  (match cap with | .exact c => N = c * k ∧ n ≤ c | .rest e alt => e = k ∧ alt = 0 ∧ rest = [] ∧ 1 ≤ n))
theorem ArrM.up {m m' : PM} {k : Nat} {v : V} {cs : List V} (h : ArrM m k v cs) (hm : PM.le m m') : ArrM m' k v cs := by
 obtain ⟨h1, h2⟩ := h
 refine ⟨h1, ?_⟩
 rcases h2 with h2 | ⟨id, n, cap, N, rest, e, hg, h3⟩
 ·exact .inl h2
 ·exact .inr ⟨id, n, cap, N, rest, e, hm _ _ hg, h3⟩
inductive Assn : Type 1 where
 | pt (id : Nat) (o : Obj)
 | ro (id : Nat) (o : Obj)
 | pu (φ : Prop)
 | buf (v : V) (l : List Nat)
 | rob (v : V) (l : List Nat)
 | rdb (v : V) (l : List Nat)
 | arr (k : Nat) (v : V) (cs : List V)
 | an (A B : Assn)
 | xs {α : Type} (f : α → Assn)
 | all {α : Type} (f : α → Assn)
 | se (A B : Assn)
abbrev pt := Assn.pt
abbrev ro := Assn.ro
abbrev pu := Assn.pu
abbrev xs {α : Type} (f : α → Assn) : Assn := Assn.xs f
abbrev bufA := Assn.buf
abbrev roB := Assn.rob
abbrev rdB := Assn.rdb
def Assn.p : Assn → PM → PM → Prop
 | .pt id o, m, _ => m id = some o
 | .ro id o, _, r => r id = some o
 | .pu φ, _, _ => φ
 | .buf v l, m, _ => BufM m v l
 | .rob v l, _, r => ViewM r v l
 | .rdb v l, m, r => ViewM m v l ∨ ViewM r v l
 | .arr k v cs, m, _ => ArrM m k v cs
 | .an A B, m, r => A.p m r ∧ B.p m r
 | .xs f, m, r => ∃ x, (f x).p m r
 | .all f, m, r => ∀ x, (f x).p m r
 | .se A B, m, r => ∃ a b, PM.dj a b ∧ PM.le a m ∧ PM.le b m ∧ A.p a r ∧ B.p b r
theorem Assn.mono : ∀ (A : Assn) (m m' r r' : PM), PM.le m m' → PM.le r r' → A.p m r → A.p m' r' := by
 intro A
 induction A with
 | pt id o => intro m m' r r' hm hr h; exact hm _ _ h
 | ro id o => intro m m' r r' hm hr h; exact hr _ _ h
 | pu φ => intro m m' r r' hm hr h; exact h
 | buf v l => intro m m' r r' hm hr h; exact BufM.up h hm
 | rob v l => intro m m' r r' hm hr h; exact ViewM.up h hr
 | rdb v l =>
  intro m m' r r' hm hr h
  rcases h with h | h
  ·exact .inl (ViewM.up h hm)
  ·exact .inr (ViewM.up h hr)
 | arr k v cs => intro m m' r r' hm hr h; exact ArrM.up h hm
 | an A B ia ib => intro m m' r r' hm hr h; exact ⟨ia _ _ _ _ hm hr h.1, ib _ _ _ _ hm hr h.2⟩
 | xs f ih => intro m m' r r' hm hr h; obtain ⟨x, hx⟩ := h; exact ⟨x, ih x _ _ _ _ hm hr hx⟩
 | all f ih => intro m m' r r' hm hr h x; exact ih x _ _ _ _ hm hr (h x)
 | se A B ia ib =>
  intro m m' r r' hm hr h
  obtain ⟨a, b, h1, h2, h3, h4, h5⟩ := h
  exact ⟨a, b, h1, PM.le_trans h2 hm, PM.le_trans h3 hm, ia _ _ _ _ (PM.le_refl _) hr h4, ib _ _ _ _ (PM.le_refl _) hr h5⟩
def star : List Assn → Assn
 | [] => .pu True
 | A :: L => .se A (star L)
theorem Assn.up {A : Assn} {m m' r r' : PM} (h : A.p m r) (hm : m.le m') (hr : r.le r') : A.p m' r' := A.mono m m' r r' hm hr h
def Ent (A B : Assn) : Prop := ∀ m r, A.p m r → B.p m r
def Pers (A : Assn) : Prop := ∀ m r, A.p m r → A.p (fun _ => none) r
theorem Pers.pu (φ : Prop) : Pers (.pu φ) := fun _ _ h => h
theorem Pers.an {A B : Assn} (h1 : Pers A) (h2 : Pers B) : Pers (.an A B) := fun m r h => ⟨h1 m r h.1, h2 m r h.2⟩
def getA : List Assn → Nat → Option Assn
 | [], _ => none
 | A :: _, 0 => some A
 | _ :: L, k + 1 => getA L k
theorem getA_up {S : List Assn} {k : Nat} {X A : Assn} (hk : getA S k = some X) : getA (A :: S) (k + 1) = some X := hk
def setA : List Assn → Nat → Assn → List Assn
 | [], _, _ => []
 | _ :: L, 0, B => B :: L
 | A :: L, k + 1, B => A :: setA L k B
def delA : List Assn → Nat → List Assn
 | [], _ => []
 | _ :: L, 0 => L
 | A :: L, k + 1 => A :: delA L k
def bringA (S : List Assn) : List Nat → List Assn
 | [] => S
 | k :: ks => match getA S k with
  | some A => A :: bringA (delA S k) ks
  | none => []
def lessN (k : Nat) : List Nat → Nat
 | [] => 0
 | x :: l => cond (Nat.blt x k) (lessN k l + 1) (lessN k l)
def seqN : List Nat → List Nat → List Nat
 | _, [] => []
 | seen, k :: ks => (k - lessN k seen) :: seqN (k :: seen) ks
theorem star_swap {A B : Assn} {L : List Assn} {m r : PM} (h : (star (A :: B :: L)).p m r) : (star (B :: A :: L)).p m r := by
 obtain ⟨a, b, h1, h2, h3, h4, c, d, g1, g2, g3, g4, g5⟩ := h
 have hac : a.dj c := PM.dj_sub h1 (PM.le_refl _) g2
 have had : a.dj d := PM.dj_sub h1 (PM.le_refl _) g3
 exact ⟨c, a.un d, PM.dj_symm (PM.un_dj hac (PM.dj_symm g1)), PM.le_trans g2 h3, PM.un_le h2 (PM.le_trans g3 h3), g4, a, d, had, PM.un_l _ _, PM.un_r had, h4, g5⟩
theorem star_cons {A : Assn} {L L' : List Assn} (h : ∀ m r, (star L).p m r → (star L').p m r) {m r : PM} (hs : (star (A :: L)).p m r) : (star (A :: L')).p m r := by
 obtain ⟨a, b, h1, h2, h3, h4, h5⟩ := hs
 exact ⟨a, b, h1, h2, h3, h4, h _ _ h5⟩
theorem star_take : ∀ {S : List Assn} {k : Nat} {A : Assn}, getA S k = some A → ∀ m r, (star S).p m r → (star (A :: delA S k)).p m r := by
 intro S
 induction S with
 | nil => intro k A h; cases h
 | cons B S ih =>
  intro k A h m r hs
  cases k with
  | zero => simp only [getA] at h; injection h with h; subst h; exact hs
  | succ k =>
   simp only [getA] at h
   exact star_swap (star_cons (ih h) hs)
theorem star_tail {A : Assn} {L : List Assn} {m r : PM} (h : (star (A :: L)).p m r) : (star L).p m r := by
 obtain ⟨a, b, h1, h2, h3, h4, h5⟩ := h
 exact Assn.up h5 h3 (PM.le_refl _)
theorem star_head {A : Assn} {L : List Assn} {m r : PM} (h : (star (A :: L)).p m r) : A.p m r := by
 obtain ⟨a, b, h1, h2, h3, h4, h5⟩ := h
 exact Assn.up h4 h2 (PM.le_refl _)
theorem star_bring : ∀ (ks : List Nat) (S : List Assn) (m r : PM), (star S).p m r → (bringA S ks = [] ∨ True) → (star (bringA S ks)).p m r := by
 intro ks
 induction ks with
 | nil => intro S m r h _; exact h
 | cons k ks ih =>
  intro S m r h _
  simp only [bringA]
  cases hk : getA S k with
  | none => trivial
  | some A => exact star_cons (fun m r h => ih _ m r h (.inr trivial)) (star_take hk m r h)
theorem star_app {L S : List Assn} : ∀ m r, (star (star L :: S)).p m r ↔ (star (L ++ S)).p m r := by
 induction L with
 | nil =>
  intro m r
  constructor
  ·intro h; exact star_tail h
  ·intro h; exact ⟨fun _ => none, m, fun _ => .inl rfl, fun _ _ h => (by cases h), PM.le_refl _, trivial, h⟩
 | cons A L ih =>
  intro m r
  constructor
  ·rintro ⟨a, b, h1, h2, h3, ⟨c, d, g1, g2, g3, g4, g5⟩, h5⟩
   have hcb : c.dj b := PM.dj_sub h1 g2 (PM.le_refl _)
   have hdb : d.dj b := PM.dj_sub h1 g3 (PM.le_refl _)
   exact ⟨c, d.un b, PM.dj_symm (PM.un_dj (PM.dj_symm g1) (PM.dj_symm hcb)), PM.le_trans g2 h2, PM.un_le (PM.le_trans g3 h2) h3, g4, (ih _ _).1 ⟨d, b, hdb, PM.un_l _ _, PM.un_r hdb, g5, h5⟩⟩
  ·rintro ⟨c, e, h1, h2, h3, h4, h5⟩
   obtain ⟨d, b, g1, g2, g3, g4, g5⟩ := (ih _ _).2 h5
   have hcd : c.dj d := PM.dj_sub h1 (PM.le_refl _) g2
   have hcb : c.dj b := PM.dj_sub h1 (PM.le_refl _) g3
   exact ⟨c.un d, b, PM.un_dj hcb g1, PM.un_le h2 (PM.le_trans g2 h3), PM.le_trans g3 h3, ⟨c, d, hcd, PM.un_l _ _, PM.un_r hcd, h4, g4⟩, g5⟩
structure Sat (h : H) (S : List Assn) : Prop where
 wf : HWf h
 ok : ∃ m r, PM.le m (T.get h.tr) ∧ PM.le r (T.get h.tr) ∧ PM.dj m r ∧ (star S).p m r
section
variable {h h' : H} {S : List Assn} {A B : Assn}
theorem Sat.map {S' : List Assn} (s : Sat h S) (hf : ∀ m r, (star S).p m r → (star S').p m r) : Sat h S' := by
 obtain ⟨m, r, h1, h2, h3, h4⟩ := s.ok
 exact ⟨s.wf, m, r, h1, h2, h3, hf _ _ h4⟩
theorem Sat.at {k : Nat} (s : Sat h S) (hk : getA S k = some A) : ∃ m r, PM.le m (T.get h.tr) ∧ PM.le r (T.get h.tr) ∧ A.p m r := by
 obtain ⟨m, r, h1, h2, h3, h4⟩ := s.ok
 exact ⟨m, r, h1, h2, star_head (star_take hk m r h4)⟩
theorem Sat.take (k : Nat) (s : Sat h S) (hk : getA S k = some A) : Sat h (A :: delA S k) := s.map (star_take hk)
theorem Sat.bring (ks : List Nat) (s : Sat h S) : Sat h (bringA S (seqN [] ks)) := s.map fun m r h => star_bring _ S m r h (.inr trivial)
theorem Sat.bringS (ks : List Nat) (s : Sat h S) : Sat h (bringA S ks) := s.map fun m r h => star_bring _ S m r h (.inr trivial)
theorem Sat.drop (s : Sat h (A :: S)) : Sat h S := s.map fun _ _ h => star_tail h
theorem star_del : ∀ (S : List Assn) (k : Nat) (m r : PM), (star S).p m r → (star (delA S k)).p m r := by
 intro S
 induction S with
 | nil => intro k m r h; exact h
 | cons B S ih =>
  intro k m r h
  cases k with
  | zero => exact star_tail h
  | succ k => exact star_cons (ih k) h
theorem Sat.del (k : Nat) (s : Sat h S) : Sat h (delA S k) := s.map (star_del S k)
theorem Sat.ent (s : Sat h (A :: S)) (he : Ent A B) : Sat h (B :: S) := s.map fun m r ⟨a, b, h1, h2, h3, h4, h5⟩ => ⟨a, b, h1, h2, h3, he _ _ h4, h5⟩
theorem Sat.dup (s : Sat h (A :: S)) (hp : Pers A) : Sat h (A :: A :: S) := s.map fun m r hs => by
 obtain ⟨a, b, h1, h2, h3, h4, h5⟩ := hs
 exact ⟨fun _ => none, m, fun _ => .inl rfl, fun _ _ h => (by cases h), PM.le_refl _, hp _ _ h4, a, b, h1, h2, h3, h4, h5⟩
theorem Sat.addPu {φ : Prop} (s : Sat h S) (hφ : φ) : Sat h (pu φ :: S) := s.map fun m _ hs => ⟨fun _ => none, m, fun _ => .inl rfl, fun _ _ h => (by cases h), PM.le_refl _, hφ, hs⟩
theorem Sat.two {C : Assn} (s : Sat h (A :: B :: S)) (pA : Pers A) (pB : Pers B) (hC : ∀ m r, A.p m r → B.p m r → C.p m r) : Sat h (C :: S) := s.map fun m r hs => by
 obtain ⟨a, b, h1, h2, h3, h4, c, d, g1, g2, g3, g4, g5⟩ := hs
 exact ⟨fun _ => none, d, fun _ => .inl rfl, fun _ _ h => (by cases h), PM.le_trans g3 h3, hC _ _ (pA _ _ h4) (pB _ _ g4), g5⟩
theorem Sat_xs {α : Type} {f : α → Assn} : Sat h (xs f :: S) ↔ ∃ x, Sat h (f x :: S) := by
 constructor
 ·intro s
  obtain ⟨m, r, h1, h2, h3, a, b, g1, g2, g3, ⟨x, g4⟩, g5⟩ := s.ok
  exact ⟨x, s.wf, m, r, h1, h2, h3, a, b, g1, g2, g3, g4, g5⟩
 ·rintro ⟨x, s⟩
  exact s.ent fun m r h => ⟨x, h⟩
theorem Sat_pu {φ : Prop} : Sat h (pu φ :: S) ↔ φ ∧ Sat h S := by
 constructor
 ·intro s
  obtain ⟨m, r, h1, h2, h3, a, b, g1, g2, g3, g4, g5⟩ := s.ok
  exact ⟨g4, s.drop⟩
 ·rintro ⟨h1, s⟩; exact s.addPu h1
theorem Sat_star {L : List Assn} : Sat h (star L :: S) ↔ Sat h (L ++ S) :=
 ⟨fun s => s.map fun m r hs => (star_app m r).1 hs, fun s => s.map fun m r hs => (star_app m r).2 hs⟩
theorem Sat.row {k id : Nat} {o : Obj} (s : Sat h S) (hk : getA S k = some (pt id o)) : T.get h.tr id = some o := by
 obtain ⟨m, r, h1, h2, h3⟩ := s.at hk
 exact h1 _ _ h3
theorem upd_le {m : PM} {t : T Obj} {id : Nat} {o : Option Obj} (hm : m.le (T.get t)) : (m.upd id o).le (T.get (t.set id o)) := by
 intro i x hx
 rw [get_set]
 simp only [PM.upd] at hx
 split
 ·rename_i e; rw [if_pos e] at hx; exact hx
 ·rename_i e; rw [if_neg e] at hx; exact hm i x hx
theorem le_put {m : PM} {h : H} {id : Nat} {o : Option Obj} (hm : m.le (T.get h.tr)) (hn : m id = none) : m.le (T.get (h.put id o).tr) := by
 intro i x hx
 rw [get_put]
 split
 ·rename_i e; subst e; rw [hn] at hx; cases hx
 ·exact hm i x hx
theorem star_set : ∀ {S : List Assn} {k id : Nat} {o o' : Obj}, getA S k = some (pt id o) → ∀ m r, (star S).p m r → m id = some o ∧ (star (setA S k (pt id o'))).p (m.upd id (some o')) r := by
 intro S
 induction S with
 | nil => intro k id o o' h; cases h
 | cons B S ih =>
  intro k id o o' hk m r hs
  obtain ⟨a, b, h1, h2, h3, h4, h5⟩ := hs
  cases k with
  | zero =>
   simp only [getA] at hk
   injection hk with hk
   subst hk
   have ha : a id = some o := h4
   have hb : b id = none := by
    rcases h1 id with e | e
    ·rw [ha] at e; cases e
    ·exact e
   refine ⟨h2 _ _ ha, a.upd id (some o'), b, fun i => ?_, fun i x hx => ?_, fun i x hx => ?_, ?_, h5⟩
   ·by_cases e : i = id
    ·right; rw [e]; exact hb
    ·simp only [PM.upd, if_neg e]; exact h1 i
   ·simp only [PM.upd] at hx ⊢
    split
    ·rename_i e; rw [if_pos e] at hx; exact hx
    ·rename_i e; rw [if_neg e] at hx; exact h2 i x hx
   ·simp only [PM.upd]
    split
    ·rename_i e; subst e; rw [hb] at hx; cases hx
    ·exact h3 i x hx
   ·show (a.upd id (some o')) id = some o'
    simp [PM.upd]
  | succ k =>
   simp only [getA] at hk
   obtain ⟨g1, g2⟩ := ih (o' := o') hk b r h5
   have ha : a id = none := by
    rcases h1 id with e | e
    ·exact e
    ·rw [g1] at e; cases e
   refine ⟨h3 _ _ g1, a, b.upd id (some o'), fun i => ?_, fun i x hx => ?_, fun i x hx => ?_, h4, g2⟩
   ·by_cases e : i = id
    ·left; rw [e]; exact ha
    ·simp only [PM.upd, if_neg e]; exact h1 i
   ·simp only [PM.upd]
    split
    ·rename_i e; subst e; rw [ha] at hx; cases hx
    ·exact h2 i x hx
   ·simp only [PM.upd] at hx ⊢
    split
    ·rename_i e; rw [if_pos e] at hx; exact hx
    ·rename_i e; rw [if_neg e] at hx; exact h3 i x hx
theorem Sat.put {k id : Nat} {o o' : Obj} (s : Sat h S) (hk : getA S k = some (pt id o)) : Sat (h.put id (some o')) (setA S k (pt id o')) := by
 obtain ⟨m, r, h1, h2, h3, h4⟩ := s.ok
 obtain ⟨g1, g2⟩ := star_set (o' := o') hk m r h4
 have hr : r id = none := by
  rcases h3 id with e | e
  ·rw [g1] at e; cases e
  ·exact e
 refine ⟨s.wf.put (s.wf _ _ (h1 _ _ g1)) _, m.upd id (some o'), r, upd_le h1, le_put h2 hr, fun i => ?_, g2⟩
 by_cases e : i = id
 ·right; rw [e]; exact hr
 ·simp only [PM.upd, if_neg e]; exact h3 i
theorem Sat.new (s : Sat h S) (o : Obj) : Sat (h.new o) (pt h.next o :: S) := by
 obtain ⟨m, r, h1, h2, h3, h4⟩ := s.ok
 have hm : m h.next = none := by
  cases e : m h.next with
  | none => rfl
  | some x => exact absurd (s.wf _ _ (h1 _ _ e)) (Nat.lt_irrefl _)
 have hr : r h.next = none := by
  cases e : r h.next with
  | none => rfl
  | some x => exact absurd (s.wf _ _ (h2 _ _ e)) (Nat.lt_irrefl _)
 have hup : ∀ (q : PM), q.le (T.get h.tr) → q h.next = none → q.le (T.get (h.new o).tr) := fun q hq hn i x hx => by
  rw [get_new]
  split
  ·rename_i e; subst e; rw [hn] at hx; cases hx
  ·exact hq i x hx
 refine ⟨s.wf.new o, m.upd h.next (some o), r, fun i x hx => ?_, hup r h2 hr, fun i => ?_, fun i => if i = h.next then some o else none, m, fun i => ?_, fun i x hx => ?_, fun i x hx => ?_, ?_, h4⟩
 ·rw [get_new]
  simp only [PM.upd] at hx
  split
  ·rename_i e; rw [if_pos e] at hx; exact hx
  ·rename_i e; rw [if_neg e] at hx; exact h1 i x hx
 ·by_cases e : i = h.next
  ·right; rw [e]; exact hr
  ·simp only [PM.upd, if_neg e]; exact h3 i
 ·by_cases e : i = h.next
  ·right; rw [e]; exact hm
  ·left; simp [e]
 ·simp only [PM.upd]
  by_cases e : i = h.next
  ·simpa [e] using hx
  ·simp [e] at hx
 ·simp only [PM.upd]
  split
  ·rename_i e; subst e; rw [hm] at hx; cases hx
  ·exact hx
 ·show (if h.next = h.next then some o else none) = some o
  simp
theorem Sat.kill {id : Nat} {o : Obj} (s : Sat h (pt id o :: S)) : Sat (h.put id none) S := by
 obtain ⟨m, r, h1, h2, h3, a, b, g1, g2, g3, g4, g5⟩ := s.ok
 have ha : a id = some o := g4
 have hb : b id = none := by
  rcases g1 id with e | e
  ·rw [ha] at e; cases e
  ·exact e
 have hr : r id = none := by
  rcases h3 id with e | e
  ·rw [g2 _ _ ha] at e; cases e
  ·exact e
 exact ⟨s.wf.put (s.wf _ _ (h1 _ _ (g2 _ _ ha))) _, b, r, le_put (PM.le_trans g3 h1) hb, le_put h2 hr, PM.dj_sub h3 g3 (PM.le_refl _), g5⟩
theorem Sat.freeze {id : Nat} {o : Obj} (s : Sat h (pt id o :: S)) : Sat h (ro id o :: S) := by
 obtain ⟨m, r, h1, h2, h3, a, b, g1, g2, g3, g4, g5⟩ := s.ok
 have ha : a id = some o := g4
 have hb : b id = none := by
  rcases g1 id with e | e
  ·rw [ha] at e; cases e
  ·exact e
 have hr : r id = none := by
  rcases h3 id with e | e
  ·rw [g2 _ _ ha] at e; cases e
  ·exact e
 have hle : r.le (r.upd id (some o)) := fun i x hx => by
  simp only [PM.upd]
  split
  ·rename_i e; subst e; rw [hr] at hx; cases hx
  ·exact hx
 refine ⟨s.wf, b, r.upd id (some o), PM.le_trans g3 h1, fun i x hx => ?_, fun i => ?_, fun _ => none, b, fun _ => .inl rfl, fun _ _ h => (by cases h), PM.le_refl _, ?_, Assn.up g5 (PM.le_refl _) hle⟩
 ·simp only [PM.upd] at hx
  split at hx
  ·rename_i e; subst e; injection hx with hx; subst hx; exact h1 _ _ (g2 _ _ ha)
  ·exact h2 i x hx
 ·by_cases e : i = id
  ·left; rw [e]; exact hb
  ·simp only [PM.upd, if_neg e]; exact PM.dj_sub h3 g3 (PM.le_refl _) i
 ·show (r.upd id (some o)) id = some o
  simp [PM.upd]
theorem Sat.keep {k : Nat} (s : Sat h S) (hk : Keep k [] h h') : Sat h' S := by
 obtain ⟨m, r, h1, h2, h3, h4⟩ := s.ok
 have hup : ∀ (q : PM), q.le (T.get h.tr) → q.le (T.get h'.tr) := fun q hq i x hx => by
  rw [hk.get i (s.wf _ _ (hq _ _ hx)) List.not_mem_nil]
  exact hq _ _ hx
 exact ⟨hk.wf, m, r, hup m h1, hup r h2, h3, h4⟩
theorem Sat.turn {k : Nat} {X : List Nat} {m₀ : PM} (s : Sat h (A :: S)) (hk : Keep k X h h') (hX : ∀ m r, PM.le m (T.get h.tr) → PM.le r (T.get h.tr) → A.p m r → ∀ i ∈ X, m i ≠ none)
  (hm : PM.le m₀ (T.get h'.tr)) (hB : ∀ r, B.p m₀ r) (hn : ∀ i, m₀ i ≠ none → i ∈ X ∨ h.next ≤ i) : Sat h' (B :: S) := by
 obtain ⟨m, r, h1, h2, h3, a, b, g1, g2, g3, g4, g5⟩ := s.ok
 have hXa : ∀ i ∈ X, a i ≠ none := hX a r (PM.le_trans g2 h1) h2 g4
 have hXb : ∀ i ∈ X, b i = none := fun i hi => by
  rcases g1 i with e | e
  ·exact absurd e (hXa i hi)
  ·exact e
 have hXr : ∀ i ∈ X, r i = none := fun i hi => by
  cases e : a i with
  | none => exact absurd e (hXa i hi)
  | some o =>
   rcases h3 i with e2 | e2
   ·rw [g2 _ _ e] at e2; cases e2
   ·exact e2
 have hup : ∀ (q : PM), q.le (T.get h.tr) → (∀ i ∈ X, q i = none) → q.le (T.get h'.tr) := fun q hq hz i x hx => by
  rw [hk.get i (s.wf _ _ (hq _ _ hx)) (fun hi => by rw [hz i hi] at hx; cases hx)]
  exact hq _ _ hx
 have hout : ∀ (q : PM), q.le (T.get h.tr) → (∀ i ∈ X, q i = none) → m₀.dj q := fun q hq hz i => by
  cases e : m₀ i with
  | none => exact .inl rfl
  | some x =>
   right
   rcases hn i (by rw [e]; simp) with hi | hi
   ·exact hz i hi
   ·cases e2 : q i with
    | none => rfl
    | some y => exact absurd (s.wf _ _ (hq _ _ e2)) (Nat.not_lt.2 hi)
 have hb' := hup b (PM.le_trans g3 h1) hXb
 have hd := hout b (PM.le_trans g3 h1) hXb
 exact ⟨hk.wf, m₀.un b, r, PM.un_le hm hb', hup r h2 hXr, PM.un_dj (hout r h2 hXr) (PM.dj_sub h3 g3 (PM.le_refl _)), m₀, b, hd, PM.un_l _ _, PM.un_r hd, hB r, g5⟩
end
theorem rd_buf (v : V) (l : List Nat) : Ent (bufA v l) (rdB v l) := fun _ _ h => .inl (BufM.view h)
theorem rd_ro (v : V) (l : List Nat) : Ent (roB v l) (rdB v l) := fun _ _ h => .inr h
theorem Pers.rob (v : V) (l : List Nat) : Pers (.rob v l) := fun _ _ h => h
section
variable {h h' : H} {S : List Assn} {A X : Assn} {v : V} {l : List Nat}
theorem Sat.viewX {k : Nat} (s : Sat h S) (hk : getA S k = some X) (hX : Ent X (rdB v l)) : View h v l := by
 obtain ⟨m, r, h1, h2, h3⟩ := s.at hk
 rcases hX _ _ h3 with h4 | h4
 ·exact ViewM.up h4 h1
 ·exact ViewM.up h4 h2
theorem Sat.buf {k : Nat} (s : Sat h S) (hk : getA S k = some (bufA v l)) : Buf h v l := by
 obtain ⟨m, r, h1, h2, h3⟩ := s.at hk
 exact BufM.up (l := l) h3 h1
theorem buf_ids {m : PM} (hb : BufM m v l) : ∀ i ∈ rowIds v, m i ≠ none := by
 intro i hi
 obtain ⟨_, h2⟩ := hb
 rcases h2 with ⟨rfl, _⟩ | ⟨id, cs, c, rfl, hg, h3⟩ | ⟨id, rfl, hg, h3⟩
 ·cases hi
 ·simp [rowIds] at hi; subst hi; rw [hg]; simp
 ·simp [rowIds] at hi; subst hi; rw [hg]; simp
theorem buf_cut (hb : Buf h v l) : BufM (fun i => if i ∈ rowIds v then T.get h.tr i else none) v l := by
 obtain ⟨h1, h2⟩ := hb
 refine ⟨h1, ?_⟩
 rcases h2 with h2 | ⟨id, cs, c, rfl, hg, h3⟩ | ⟨id, rfl, hg, h3⟩
 ·exact .inl h2
 ·exact .inr (.inl ⟨id, cs, c, rfl, by simp [rowIds, hg], h3⟩)
 ·exact .inr (.inr ⟨id, rfl, by simp [rowIds, hg], h3⟩)
theorem cut_le (L : List Nat) : PM.le (fun i => if i ∈ L then T.get h.tr i else none) (T.get h.tr) := fun i x hx => by
 simp only at hx
 split at hx
 ·exact hx
 ·cases hx
theorem Sat.newBuf {k : Nat} (s : Sat h S) (hk : Keep k [] h h') (hb : Buf h' v l) (hn : ∀ i ∈ rowIds v, h.next ≤ i) : Sat h' (bufA v l :: S) := by
 have s' : Sat h (pu True :: S) := s.addPu trivial
 refine s'.turn (B := bufA v l) (m₀ := fun i => if i ∈ rowIds v then T.get h'.tr i else none) hk (fun _ _ _ _ _ i hi => by cases hi) (cut_le _) (fun _ => buf_cut hb) (fun i hi => .inr ?_)
 split at hi
 ·rename_i e; exact hn i e
 ·exact absurd rfl hi
theorem Sat.turnBuf {k : Nat} {v' : V} {l' : List Nat} (s : Sat h (bufA v l :: S)) (hk : Keep k (rowIds v) h h') (hb : Buf h' v' l') (hn : ∀ i ∈ rowIds v', i ∈ rowIds v ∨ h.next ≤ i) : Sat h' (bufA v' l' :: S) := by
 refine s.turn (B := bufA v' l') (m₀ := fun i => if i ∈ rowIds v' then T.get h'.tr i else none) hk (fun _ _ _ _ h => buf_ids h) (cut_le _) (fun _ => buf_cut hb) (fun i hi => ?_)
 split at hi
 ·rename_i e; exact hn i e
 ·exact absurd rfl hi
theorem Sat.freezeBuf (s : Sat h (bufA v l :: S)) : Sat h (roB v l :: S) := by
 obtain ⟨m, r, h1, h2, h3, a, b, g1, g2, g3, g4, g5⟩ := s.ok
 have hra : r.dj a := PM.dj_symm (PM.dj_sub h3 g2 (PM.le_refl _))
 refine ⟨s.wf, b, r.un a, PM.le_trans g3 h1, PM.un_le h2 (PM.le_trans g2 h1), PM.dj_symm (PM.un_dj (PM.dj_symm (PM.dj_sub h3 g3 (PM.le_refl _))) g1), fun _ => none, b, fun _ => .inl rfl, fun _ _ h => (by cases h), PM.le_refl _, ?_, Assn.up g5 (PM.le_refl _) (PM.un_l _ _)⟩
 exact (BufM.view g4).up (PM.un_r hra)
end
theorem heaps4 {a b c d : H} {l : List H} {p : H → Prop} (ha : p a) (hb : p b) (hc : p c) (hd : p d) : ∀ x ∈ ((a :: b :: c :: d :: l).drop 0).take 4, p x := by
 intro x hx
 simp only [List.drop_zero, List.take_succ_cons, List.take_zero, List.mem_cons, List.not_mem_nil, or_false] at hx
 rcases hx with rfl | rfl | rfl | rfl
 ·exact ha
 ·exact hb
 ·exact hc
 ·exact hd
section
variable {P : Program} {h : H} {S : List Assn} {k id off n : Nat} {cs : List V} {st : Bool} {v u : V} {t : TypeId}
theorem Sat.ld (s : Sat h S) (hk : getA S k = some (pt id (.cells n cs st))) (ht : isAggT P t = some false) (hn : nth cs off = some v) : loadV P h t (.ptr id off) = some v := ld1 ht (s.row hk) hn
theorem Sat.ldA (s : Sat h S) (hk : getA S k = some (pt id (.cells n cs st))) (ht : isAggT P t = some true) (hs : sizeT P t = some n) : loadV P h t (.ptr id 0) = some (.agg cs) := Am.ldA ht hs (s.row hk)
theorem Sat.st1 (s : Sat h S) (hk : getA S k = some (pt id (.cells n cs false))) (hs : sizeT P t = some 1) (hl : cs.length = n) (ho : off < n) (hv : v.cells = [v]) (hst : storable v = true) :
  ∃ h₁, storeV P h t (.ptr id off) v = some h₁ ∧ Sat h₁ (setA S k (pt id (.cells n (cs.set off v) false))) := by
 refine ⟨h.put id (some (.cells n (cs.set off v) false)), ?_, s.put hk⟩
 simp only [storeV, hs, hv, List.length_cons, List.length_nil, List.all_cons, List.all_nil, hst, Bool.and_true]
 rw [show Nat.beq (0 + 1) 1 = true from rfl, cond_true]
 simp only [wrN, s.row hk, List.length_cons, List.length_nil]
 rw [ble_iff.2 (show off + (0 + 1) ≤ n by omega), cond_true]
 congr 3
 rw [List.set_eq_take_append_cons_drop, if_pos (by omega)]
 cases hc : (Nat.beq off 0 && Nat.beq (0 + 1) n) with
 | true =>
  simp only [Bool.and_eq_true, beq_iff] at hc
  obtain ⟨rfl, rfl⟩ := hc
  rw [cond_true]
  have : cs.drop (0 + 1) = [] := List.drop_eq_nil_of_le (by omega)
  simp [this]
 | false => rw [cond_false]; rfl
theorem Sat.stN {l : List V} (s : Sat h S) (hk : getA S k = some (pt id (.cells n cs false))) (hs : sizeT P t = some l.length) (hl : cs.length = n) (ho : off + l.length ≤ n) (hst : l.all storable = true) :
  ∃ h₁, storeV P h t (.ptr id off) (.agg l) = some h₁ ∧ Sat h₁ (setA S k (pt id (.cells n (cs.take off ++ (l ++ cs.drop (off + l.length))) false))) := by
 refine ⟨h.put id (some (.cells n (cs.take off ++ (l ++ cs.drop (off + l.length))) false)), ?_, s.put hk⟩
 simp only [storeV, hs, V.cells, hst, Nat.beq_refl, Bool.and_self, cond_true, wrN, s.row hk]
 rw [ble_iff.2 ho, cond_true]
 congr 3
 cases hc : (Nat.beq off 0 && Nat.beq l.length n) with
 | true =>
  simp only [Bool.and_eq_true, beq_iff] at hc
  obtain ⟨rfl, hn⟩ := hc
  rw [cond_true]
  have : cs.drop (0 + l.length) = [] := List.drop_eq_nil_of_le (by omega)
  rw [this]
  simp
 | false => rw [cond_false]
end
section
variable {C : Cfg} {ntm : Nat} {E : List (Nat × V)} {h : H} {R : List (Nat × V) → H → Prop} {L rest : List Oper} {o : Oper} {d : Nat} {S : List Assn}
theorem WPs.newS {cs : List V} (s : Sat h S) (hg : wantE L E o.guard = some true) (hd : o.dst = some d) (hn : Nat.blt d ntm = true) (ho : opE C.P E h o.op = some (.ptr h.next 0, newRow h cs))
  (hr : ∀ id h₁, Sat h₁ (pt id (.cells cs.length cs false) :: S) → WPs C ntm L rest ((d, .ptr id 0) :: E) h₁ R) : WPs C ntm L (o :: rest) E h R :=
 WPs.op hg hd hn ho (hr _ _ (s.new _))
theorem WPs.stS {t : TypeId} {x y : Operand} {v u : V} {S' : List Assn} (hg : wantE L E o.guard = some true) (hd : o.dst = none) (hop : o.op = .store t x y) (hx : lookO E x = some v) (hy : lookO E y = some u)
  (ho : ∃ h₁, storeV C.P h t v u = some h₁ ∧ Sat h₁ S') (hr : ∀ h₁, Sat h₁ S' → WPs C ntm L rest E h₁ R) : WPs C ntm L (o :: rest) E h R := by
 obtain ⟨h₁, e1, e2⟩ := ho
 exact WPs.op0 hg hd (by rw [hop]; exact o_store hx hy e1) (hr h₁ e2)
theorem WP.label {Q : Ex → List (Nat × V) → H → Prop} {l : Nat} (hq : Q .normal E h) : WP C ntm (.label l) E h Q := fun env hE => ⟨1, .normal, env, h, E, rfl, hE, hq⟩
theorem WP.split {Q : Ex → List (Nat × V) → H → Prop} {x : Operand} {a b : Code} {t : Bool} (hx : lookO E x = some (.bool t)) (h1 : t = true → WP C ntm a E h Q) (h2 : t = false → WP C ntm b E h Q) : WP C ntm (.cond x a b) E h Q := by
 refine WP.cond hx ?_
 cases t with
 | true => exact h1 rfl
 | false => exact h2 rfl
theorem WP.condT {Q : Ex → List (Nat × V) → H → Prop} {x : Operand} {a b : Code} {t : Bool} (hx : lookO E x = some (.bool t)) (ht : t = true) (h1 : WP C ntm a E h Q) : WP C ntm (.cond x a b) E h Q := by
 subst ht; exact WP.cond hx h1
theorem WP.condF {Q : Ex → List (Nat × V) → H → Prop} {x : Operand} {a b : Code} {t : Bool} (hx : lookO E x = some (.bool t)) (ht : t = false) (h1 : WP C ntm b E h Q) : WP C ntm (.cond x a b) E h Q := by
 subst ht; exact WP.cond hx h1
end
section
variable {P : Program} {E : List (Nat × V)} {h h₁ : H} {x y a b : Operand} {v u r : V}
theorem o_fld {t i : Nat} (hx : lookO E x = some v) (hf : fieldV P t v i = some r) : opE P E h (.field t x i) = some (r, h) := by simp only [opE, on1, hx, hf, pureV]
theorem o_mkm {t : TypeId} : opE P E h (.makeMap t none) = some (.map h.next, h.new (.map [] 0)) := rfl
theorem o_look {t : TypeId} {ok : Bool} (hx : lookO E x = some v) (hy : lookO E y = some u) (hf : lookupX P h t v u ok = some r) : opE P E h (.lookup t x y ok) = some (r, h) := by simp only [opE, on2, hx, hy, hf, pureV]
theorem fv_of {cs : List V} {t i off : Nat} (hf : fieldV P t (.agg cs) i = nth cs off) (hn : nth cs off = some r) : fieldV P t (.agg cs) i = some r := by rw [hf, hn]
theorem cvI {s d : TypeId} {k k' : IntKind} {n : Int} {td : TypeDesc} (hs : P.underlying s = some td) (hd : P.underlying d = some (.int k')) (hn : k'.wrap n = n) : convV P h s d (.int k n) = some (.int k' n, h) := by simp only [convV, hs, hd, hn]
theorem len_sl {t e : TypeId} {i o n : Nat} {c : Cap} (hu : P.underlying t = some (.slice e)) : lenV P h t (.sl i o n c) = some (.int .i64 n) := by simp only [lenV, hu]
theorem len_view {t e : TypeId} {l : List Nat} (hu : P.underlying t = some (.slice e)) (hv : View h v l) : lenV P h t v = some (.int .i64 l.length) := by
 obtain ⟨_, hv⟩ := hv
 rcases hv with ⟨rfl | ⟨ea, rfl⟩, rfl⟩ | ⟨id, off, cap, n, cs, st, rfl, _⟩ <;> simp [lenV, hu]
theorem mki_of {t : TypeId} {td : TypeDesc} (hu : P.underlying t = some td) (hn : (match td with | .interface _ => false | _ => true) = true) : makeIfaceV P t v = some (.iface t v) := by
 simp only [makeIfaceV, hu]
 cases td <;> first | rfl | simp at hn
end
section
theorem wrapS {n : Int} (h1 : -9223372036854775808 ≤ n) (h2 : n < 9223372036854775808) : IntKind.wrap .i64 n = n := by
 by_cases h : 0 ≤ n
 ·have e : (n % (2 ^ (IntKind.i64).bits : Int)) = n := by simp only [IntKind.bits]; omega
  have g : ¬ (n ≥ (2 ^ ((IntKind.i64).bits - 1) : Int)) := by simp only [IntKind.bits]; omega
  simp only [IntKind.wrap, e, g, decide_false, Bool.and_false, Bool.false_eq_true, if_false]
 ·have e : (n % (2 ^ (IntKind.i64).bits : Int)) = n + 18446744073709551616 := by simp only [IntKind.bits]; omega
  have g : (n + 18446744073709551616 ≥ (2 ^ ((IntKind.i64).bits - 1) : Int)) := by simp only [IntKind.bits]; omega
  simp only [IntKind.wrap, e, g, decide_true, IntKind.signed, Bool.and_self, if_true]
  simp only [IntKind.bits]
  omega
theorem wrapU {n : Int} (h1 : 0 ≤ n) (h2 : n < 18446744073709551616) : IntKind.wrap .u64 n = n := by
 simp only [IntKind.wrap, IntKind.bits, IntKind.signed, Bool.false_and, Bool.false_eq_true, if_false]
 omega
theorem wrapU32 {n : Int} (h1 : 0 ≤ n) (h2 : n < 4294967296) : IntKind.wrap .u32 n = n := by
 simp only [IntKind.wrap, IntKind.bits, IntKind.signed, Bool.false_and, Bool.false_eq_true, if_false]
 omega
theorem wrapU8 {n : Int} (h1 : 0 ≤ n) (h2 : n < 256) : IntKind.wrap .u8 n = n := by
 simp only [IntKind.wrap, IntKind.bits, IntKind.signed, Bool.false_and, Bool.false_eq_true, if_false]
 omega
variable {P : Program} {h : H} {t : TypeId} {x y : Operand} {a b : Int}
theorem bAdd {k : IntKind} (hw : k.wrap (a + b) = a + b) : binV P h .add t x y (.int k a) (.int k b) = some (.int k (a + b)) := by
 simp only [binV, ikBeq_self, cond_true, intV, hw]
theorem bSub {k : IntKind} (hw : k.wrap (a - b) = a - b) : binV P h .sub t x y (.int k a) (.int k b) = some (.int k (a - b)) := by
 simp only [binV, ikBeq_self, cond_true, intV, hw]
theorem bMul {k : IntKind} (hw : k.wrap (a * b) = a * b) : binV P h .mul t x y (.int k a) (.int k b) = some (.int k (a * b)) := by
 simp only [binV, ikBeq_self, cond_true, intV, hw]
theorem bEql {k : IntKind} : binV P h .eql t x y (.int k a) (.int k b) = some (.bool (decide (a = b))) := by
 simp only [binV, ikBeq_self, cond_true, intV]
 congr 2
 cases hq : intBeq a b with
 | true => simp [intBeq_ok hq]
 | false =>
  by_cases he : a = b
  ·subst he; rw [intBeq_self] at hq; cases hq
  ·simp [he]
theorem bNeq {k : IntKind} : binV P h .neq t x y (.int k a) (.int k b) = some (.bool (!decide (a = b))) := by
 simp only [binV, ikBeq_self, cond_true, intV]
 congr 3
 cases hq : intBeq a b with
 | true => simp [intBeq_ok hq]
 | false =>
  by_cases he : a = b
  ·subst he; rw [intBeq_self] at hq; cases hq
  ·simp [he]
theorem bLss {k : IntKind} : binV P h .lss t x y (.int k a) (.int k b) = some (.bool (decide (a < b))) := by simp only [binV, ikBeq_self, cond_true, intV]
theorem bLeq {k : IntKind} : binV P h .leq t x y (.int k a) (.int k b) = some (.bool (decide (a ≤ b))) := by simp only [binV, ikBeq_self, cond_true, intV]
theorem bGtr {k : IntKind} : binV P h .gtr t x y (.int k a) (.int k b) = some (.bool (decide (a > b))) := by simp only [binV, ikBeq_self, cond_true, intV]
theorem bGeq {k : IntKind} : binV P h .geq t x y (.int k a) (.int k b) = some (.bool (decide (a ≥ b))) := by simp only [binV, ikBeq_self, cond_true, intV]
theorem natsBeq_iff : ∀ {l m : List Nat}, natsBeq l m = decide (l = m) := by
 intro l
 induction l with
 | nil => intro m; cases m <;> simp [natsBeq]
 | cons a l ih =>
  intro m
  cases m with
  | nil => simp [natsBeq]
  | cons b m =>
   simp only [natsBeq]
   by_cases hab : a = b
   ·subst hab; rw [Nat.beq_refl, cond_true, ih]; simp
   ·rw [beqF hab, cond_false]; simp [hab]
theorem bNeqS {l m : List Nat} : binV P h .neq t x y (.str l) (.str m) = some (.bool (!decide (l = m))) := by simp only [binV, strV, natsBeq_iff]
end
section
variable {C : Cfg} {ntm : Nat} {E : List (Nat × V)} {h : H} {R : List (Nat × V) → H → Prop} {L rest : List Oper} {o : Oper} {d : Nat} {S : List Assn} {p : Bool}
theorem WPs.opT (hg : wantE L E o.guard = some true) (hd : o.dst = some d) (hn : Nat.blt d ntm = true) (ho : opE C.P E h o.op = some (.bool p, h)) (hp : p = true) (hw : WPs C ntm L rest ((d, .bool true) :: E) h R) : WPs C ntm L (o :: rest) E h R := by
 subst hp; exact WPs.op hg hd hn ho hw
theorem WPs.opF (hg : wantE L E o.guard = some true) (hd : o.dst = some d) (hn : Nat.blt d ntm = true) (ho : opE C.P E h o.op = some (.bool p, h)) (hp : p = false) (hw : WPs C ntm L rest ((d, .bool false) :: E) h R) : WPs C ntm L (o :: rest) E h R := by
 subst hp; exact WPs.op hg hd hn ho hw
theorem WPs.opB (hg : wantE L E o.guard = some true) (hd : o.dst = some d) (hn : Nat.blt d ntm = true) (ho : opE C.P E h o.op = some (.bool p, h)) (ht : p = true → WPs C ntm L rest ((d, .bool true) :: E) h R) (hf : p = false → WPs C ntm L rest ((d, .bool false) :: E) h R) : WPs C ntm L (o :: rest) E h R := by
 cases p with
 | true => exact WPs.op hg hd hn ho (ht rfl)
 | false => exact WPs.op hg hd hn ho (hf rfl)
theorem WPs.newM {t : TypeId} (s : Sat h S) (hg : wantE L E o.guard = some true) (hd : o.dst = some d) (hn : Nat.blt d ntm = true) (hop : o.op = .makeMap t none)
  (hr : ∀ id h₁, Sat h₁ (pt id (.map [] 0) :: S) → WPs C ntm L rest ((d, .map id) :: E) h₁ R) : WPs C ntm L (o :: rest) E h R :=
 WPs.op hg hd hn (by rw [hop]; exact o_mkm) (hr _ _ (s.new _))
theorem WPs.any0 {R₁ : V → H → Prop} (hg : wantE L E o.guard = some true) (hd : o.dst = none) (ho : OpR C E h o R₁)
  (hw : ∀ v h₁, R₁ v h₁ → WPs C ntm L rest E h₁ R) : WPs C ntm L (o :: rest) E h R := by
 intro env hE
 obtain ⟨v, h₁, hr, hev⟩ := ho
 obtain ⟨N, hN⟩ := hev env hE
 obtain ⟨M, env', h', E', h1, h2, h3⟩ := hw v h₁ hr env hE
 refine ⟨Nat.max N M, env', h', E', ?_, h2, h3⟩
 simp only [evOps, wantE_ok hE hg, cond_true, evOp_mono (ev_mono (Nat.le_max_left N M)) hN, St.put, hd]
 exact evOps_mono (ev_mono (Nat.le_max_right N M)) _ _ _ h1
variable {hs : List H} {Q : List (Nat × V) → H → List (List (Nat × V) × V) → List H → Prop}
theorem WPt.opT (hg : wantE L E o.guard = some true) (hd : o.dst = some d) (hn : Nat.blt d ntm = true) (he : isEff C o.op = false) (ho : opE C.P E h o.op = some (.bool p, h)) (hp : p = true)
  (hw : WPt C ntm L rest ((d, .bool true) :: E) h hs fun E' h' ts hs' => Q E' h' ((E, .bool true) :: ts) hs') : WPt C ntm L (o :: rest) E h hs Q := by
 subst hp; exact WPt.op hg hd hn he ho hw
theorem WPt.opF (hg : wantE L E o.guard = some true) (hd : o.dst = some d) (hn : Nat.blt d ntm = true) (he : isEff C o.op = false) (ho : opE C.P E h o.op = some (.bool p, h)) (hp : p = false)
  (hw : WPt C ntm L rest ((d, .bool false) :: E) h hs fun E' h' ts hs' => Q E' h' ((E, .bool false) :: ts) hs') : WPt C ntm L (o :: rest) E h hs Q := by
 subst hp; exact WPt.op hg hd hn he ho hw
theorem WPt.opB (hg : wantE L E o.guard = some true) (hd : o.dst = some d) (hn : Nat.blt d ntm = true) (he : isEff C o.op = false) (ho : opE C.P E h o.op = some (.bool p, h))
  (ht : p = true → WPt C ntm L rest ((d, .bool true) :: E) h hs fun E' h' ts hs' => Q E' h' ((E, .bool true) :: ts) hs')
  (hf : p = false → WPt C ntm L rest ((d, .bool false) :: E) h hs fun E' h' ts hs' => Q E' h' ((E, .bool false) :: ts) hs') : WPt C ntm L (o :: rest) E h hs Q := by
 cases p with
 | true => exact WPt.op hg hd hn he ho (ht rfl)
 | false => exact WPt.op hg hd hn he ho (hf rfl)
theorem OpR.stS {t : TypeId} {x y : Operand} {v u : V} {S' : List Assn} (hop : o.op = .store t x y) (hx : lookO E x = some v) (hy : lookO E y = some u)
  (ho : ∃ h₁, storeV C.P h t v u = some h₁ ∧ Sat h₁ S') : OpR C E h o fun w h₁ => w = undefV ∧ Sat h₁ S' := by
 obtain ⟨h₁, e1, e2⟩ := ho
 exact OpR.of (by rw [hop]; exact o_store hx hy e1) ⟨rfl, e2⟩
end
theorem resC1 {P : Program} {E : List (Nat × V)} {h : H} {a b t : Nat} {p v w : V} (hl : look E a = some p) (hd : loadV P h t p = some v) (h2 : look E b = some w) : resLE P E h [.cell a t, .tmp b] = some (.tup [v, w]) := by simp only [resLE, mapO, resE, hl, hd, h2]
theorem res1 {P : Program} {E : List (Nat × V)} {h : H} {t : Nat} {v : V} (hl : look E t = some v) : resLE P E h [.tmp t] = some v := by simp only [resLE, mapO, resE, hl]
def kidC : Code → Nat → Code
 | .seq a _, 0 => a
 | .seq _ b, _ => b
 | .cond _ a _, 0 => a
 | .cond _ _ b, _ => b
 | .block _ a, _ => a
 | .loop a, _ => a
 | .scope a, _ => a
 | c, _ => c
def pathC : List Nat → Code → Code
 | [], c => c
 | k :: ks, c => pathC ks (kidC c k)
end Go.Proofs.YtconhghphklfjaaGreat.Am
