/- A group that is over or open, pages that are none and records that may not be are refused, and a record that was done is read back; the conditions are those of the given statement, for arguments that a machine can hold. Part 17 of 44. -/
import Derived.Test.YtconhghphklfjaaGreatE16
namespace Go.Proofs.YtconhghphklfjaaGreat.Am
open Go
section
variable {C : Cfg} {ntm : Nat} {L l rest : List Oper} {o : Oper} {E : List (Nat × V)} {h h₁ : H} {d : Nat}
def OpR (C : Cfg) (E : List (Nat × V)) (h : H) (o : Oper) (R : V → H → Prop) : Prop := ∃ v h₁, R v h₁ ∧ ∀ env, EOk env E → ∃ N, evOp C (ev C N) env h o = some (v, h₁)
theorem OpR.call {cl : Go.Call} {x : Operand} {k : FuncId} {first cap args : List V} {R : V → H → Prop} (hop : o.op = .call cl) (hc : cl.callee = .value x) (hx : lookO E x = some (.fn (.func k) first cap))
  (ha : lookArgs E cl.args.toList = some args) (hcall : Am.Call C k (first ++ (args ++ cap)) h R) : OpR C E h o R := by
 obtain ⟨v, h₁, hdo, hr⟩ := hcall
 exact ⟨v, h₁, hr, fun env hE => callDo_op hE hop hc hx ha hdo⟩
theorem OpR.of {v : V} {R : V → H → Prop} (ho : opE C.P E h o.op = some (v, h₁)) (hr : R v h₁) : OpR C E h o R := ⟨v, h₁, hr, fun _ hE => ⟨0, opE_ok hE ho⟩⟩
theorem WPs.any {R : List (Nat × V) → H → Prop} {R₁ : V → H → Prop} (hg : wantE L E o.guard = some true) (hd : o.dst = some d) (hn : Nat.blt d ntm = true) (ho : OpR C E h o R₁)
  (hw : ∀ v h₁, R₁ v h₁ → WPs C ntm L rest ((d, v) :: E) h₁ R) : WPs C ntm L (o :: rest) E h R := by
 intro env hE
 obtain ⟨v, h₁, hr, hev⟩ := ho
 obtain ⟨N, hN⟩ := hev env hE
 obtain ⟨M, env', h', E', h1, h2, h3⟩ := hw v h₁ hr (env.set d (some v)) (hE.set d v)
 refine ⟨Nat.max N M, env', h', E', ?_, h2, h3⟩
 simp only [evOps, wantE_ok hE hg, cond_true, evOp_mono (ev_mono (Nat.le_max_left N M)) hN, St.put, hd, hn]
 exact evOps_mono (ev_mono (Nat.le_max_right N M)) _ _ _ h1
def Noted : List (Env × V) → List (List (Nat × V) × V) → Prop
 | [], [] => True
 | x :: l, y :: m => EOk x.1 y.1 ∧ x.2 = y.2 ∧ Noted l m
 | _, _ => False
def WPt (C : Cfg) (ntm : Nat) (L l : List Oper) (E : List (Nat × V)) (h : H) (hs : List H) (Q : List (Nat × V) → H → List (List (Nat × V) × V) → List H → Prop) : Prop :=
 ∀ env, EOk env E → ∃ N env' h' E' tr ts hs', trace C (ev C N) L l ⟨env, ntm, h⟩ hs = some (tr, hs', ⟨env', ntm, h'⟩) ∧ EOk env' E' ∧ Noted tr ts ∧ Q E' h' ts hs'
variable {hs : List H} {Q : List (Nat × V) → H → List (List (Nat × V) × V) → List H → Prop}
theorem WPt.nil (hq : Q E h [] hs) : WPt C ntm L [] E h hs Q := fun env hE => ⟨0, env, h, E, [], [], hs, rfl, hE, trivial, hq⟩
theorem WPt.any {R₁ : V → H → Prop} {e : Bool} (hg : wantE L E o.guard = some true) (hd : o.dst = some d) (hn : Nat.blt d ntm = true) (he : isEff C o.op = e) (ho : OpR C E h o R₁)
  (hw : ∀ v h₁, R₁ v h₁ → WPt C ntm L rest ((d, v) :: E) h₁ (cond e (hs ++ [h₁]) hs) fun E' h' ts hs' => Q E' h' ((E, v) :: ts) hs') : WPt C ntm L (o :: rest) E h hs Q := by
 intro env hE
 obtain ⟨v, h₁, hr, hev⟩ := ho
 obtain ⟨N, hN⟩ := hev env hE
 obtain ⟨M, env', h', E', tr, ts, hs', h1, h2, h3, h4⟩ := hw v h₁ hr (env.set d (some v)) (hE.set d v)
 refine ⟨Nat.max N M, env', h', E', (env, v) :: tr, (E, v) :: ts, hs', ?_, h2, ⟨hE, rfl, h3⟩, h4⟩
 simp only [trace, wantE_ok hE hg, cond_true, evOp_mono (ev_mono (Nat.le_max_left N M)) hN, St.put, hd, hn, he]
 rw [trace_mono (ev_mono (Nat.le_max_right N M)) _ _ _ _ h1]
theorem WPt.any0 {R₁ : V → H → Prop} {e : Bool} (hg : wantE L E o.guard = some true) (hd : o.dst = none) (he : isEff C o.op = e) (ho : OpR C E h o R₁)
  (hw : ∀ v h₁, R₁ v h₁ → WPt C ntm L rest E h₁ (cond e (hs ++ [h₁]) hs) fun E' h' ts hs' => Q E' h' ((E, v) :: ts) hs') : WPt C ntm L (o :: rest) E h hs Q := by
 intro env hE
 obtain ⟨v, h₁, hr, hev⟩ := ho
 obtain ⟨N, hN⟩ := hev env hE
 obtain ⟨M, env', h', E', tr, ts, hs', h1, h2, h3, h4⟩ := hw v h₁ hr env hE
 refine ⟨Nat.max N M, env', h', E', (env, v) :: tr, (E, v) :: ts, hs', ?_, h2, ⟨hE, rfl, h3⟩, h4⟩
 simp only [trace, wantE_ok hE hg, cond_true, evOp_mono (ev_mono (Nat.le_max_left N M)) hN, St.put, hd, he]
 rw [trace_mono (ev_mono (Nat.le_max_right N M)) _ _ _ _ h1]
theorem WPt.op {v : V} (hg : wantE L E o.guard = some true) (hd : o.dst = some d) (hn : Nat.blt d ntm = true) (he : isEff C o.op = false) (ho : opE C.P E h o.op = some (v, h))
  (hw : WPt C ntm L rest ((d, v) :: E) h hs fun E' h' ts hs' => Q E' h' ((E, v) :: ts) hs') : WPt C ntm L (o :: rest) E h hs Q :=
 WPt.any hg hd hn he (OpR.of (R := fun v' h' => v' = v ∧ h' = h) ho ⟨rfl, rfl⟩) (fun v' h' hr => by obtain ⟨rfl, rfl⟩ := hr; exact hw)
theorem WPt.no {e : Bool} (hg : wantE L E o.guard = some false) (hd : o.dst = some d) (hn : Nat.blt d ntm = true) (he : isEff C o.op = e)
  (hw : WPt C ntm L rest ((d, undefV) :: E) h (cond e (hs ++ [h]) hs) fun E' h' ts hs' => Q E' h' ((E, undefV) :: ts) hs') : WPt C ntm L (o :: rest) E h hs Q := by
 intro env hE
 obtain ⟨M, env', h', E', tr, ts, hs', h1, h2, h3, h4⟩ := hw (env.set d (some undefV)) (hE.set d undefV)
 refine ⟨M, env', h', E', (env, undefV) :: tr, (E, undefV) :: ts, hs', ?_, h2, ⟨hE, rfl, h3⟩, h4⟩
 simp only [trace, wantE_ok hE hg, cond_false, St.put, hd, hn, cond_true, he]
 rw [h1]
def SameAt (C : Cfg) (L : List Oper) (o : Oper) (x : List (Nat × V) × V) (h : H) : Prop :=
 wantE L x.1 o.guard = some false ∨ (wantE L x.1 o.guard = some true ∧ (∃ h', opE C.P x.1 h o.op = some (x.2, h')) ∧ x.2.beq x.2 = true)
def StayP (C : Cfg) (L : List Oper) (an es : List Nat) (hs : List H) : List Oper → List (List (Nat × V) × V) → Nat → Prop
 | o :: l, x :: tr, i => (isEff C o.op = true ∨ (loGap ((nth an i).getD 0) es && Nat.beq (loOf ((nth an i).getD 0) es) (hiOf an i es)) = true ∨
   (loGap ((nth an i).getD 0) es = true ∧ ∀ h ∈ (hs.drop (loOf ((nth an i).getD 0) es)).take (hiOf an i es + 1 - loOf ((nth an i).getD 0) es), SameAt C L o x h)) ∧ StayP C L an es hs l tr (i + 1)
 | [], [], _ => True
 | _, _, _ => False
theorem sameIn_of {self : Self} {x : Env × V} {y : List (Nat × V) × V} (hE : EOk x.1 y.1) (hv : x.2 = y.2) : ∀ (hs : List H), (∀ h ∈ hs, SameAt C L o y h) → sameIn C self L o x hs = true := by
 intro hs
 induction hs with
 | nil => intro _; rfl
 | cons h hs ih =>
  intro hall
  simp only [sameIn]
  rcases hall h List.mem_cons_self with hg | ⟨hg, ⟨h', ho⟩, hb⟩
  ·rw [wantE_ok hE hg, cond_false]
  ·rw [wantE_ok hE hg, cond_true, opE_ok hE ho]
   simp only
   rw [hv, hb, cond_true]
   exact ih (fun h hh => hall h (List.mem_cons_of_mem _ hh))
theorem stayOk_of {self : Self} {an es : List Nat} : ∀ (l : List Oper) (tr : List (Env × V)) (ts : List (List (Nat × V) × V)) (i : Nat), Noted tr ts → StayP C L an es hs l ts i → stayOk C self L an es hs l tr i = true := by
 intro l
 induction l with
 | nil => intro tr ts i hn hst; cases tr <;> cases ts <;> first | rfl | (exact hst.elim) | (exact hn.elim)
 | cons o l ih =>
  intro tr ts i hn hst
  cases tr with
  | nil => cases ts with
   | nil => exact hst.elim
   | cons y ts => exact hn.elim
  | cons x tr =>
   cases ts with
   | nil => exact hn.elim
   | cons y ts =>
    obtain ⟨n1, n2, n3⟩ := hn
    obtain ⟨s1, s2⟩ := hst
    simp only [stayOk]
    have hrest := ih tr ts (i + 1) n3 s2
    cases he : isEff C o.op with
    | true => rw [cond_true]; exact hrest
    | false =>
     rw [cond_false]
     rcases s1 with s1 | s1 | ⟨s1, s3⟩
     ·rw [he] at s1; cases s1
     ·rw [s1, cond_true]; exact hrest
     ·cases hq : (loGap ((nth an i).getD 0) es && Nat.beq (loOf ((nth an i).getD 0) es) (hiOf an i es)) with
      | true => rw [cond_true]; exact hrest
      | false => rw [cond_false, s1, sameIn_of n1 n2 _ s3, Bool.and_self, cond_true]; exact hrest
theorem WP.draw {id : Nat} {ops : Array Oper} {Q : Ex → List (Nat × V) → H → Prop} (hl : ops.toList = L) (hst : staticOk C L = true)
  (hw : WPt C ntm L L E h [h] fun E' h' ts hs => StayP C L (ancs L []) (effAt C L 0) hs L ts 0 ∧ Q .normal E' h') : WP C ntm (.region id ops true) E h Q := by
 intro env hE
 obtain ⟨N, env', h', E', tr, ts, hs', h1, h2, h3, h4, h5⟩ := hw env hE
 refine ⟨N + 1, .normal, env', h', E', ?_, h2, h5⟩
 subst hl
 rw [ev_step]
 simp only [evStep, cond_true, evDraw, hst, h1, stayOk_of _ _ _ _ h3 h4]
end
def planOk (C : Cfg) (an es : List Nat) : List Oper → List (Option (Nat × Nat)) → Nat → Bool
 | [], [], _ => true
 | o :: l, p :: ps, i => (match p with
   | none => isEff C o.op || (loGap ((nth an i).getD 0) es && Nat.beq (loOf ((nth an i).getD 0) es) (hiOf an i es))
   | some (lo, n) => loGap ((nth an i).getD 0) es && Nat.beq lo (loOf ((nth an i).getD 0) es) && Nat.beq n (hiOf an i es + 1 - loOf ((nth an i).getD 0) es)) && planOk C an es l ps (i + 1)
 | _, _, _ => false
def StayL (C : Cfg) (L : List Oper) (hs : List H) : List Oper → List (List (Nat × V) × V) → List (Option (Nat × Nat)) → Prop
 | o :: l, x :: tr, p :: ps => (match p with
   | none => True
   | some (lo, n) => ∀ h ∈ (hs.drop lo).take n, SameAt C L o x h) ∧ StayL C L hs l tr ps
 | [], [], _ => True
 | _, _, _ => False
theorem StayL.stay {C : Cfg} {L : List Oper} {hs : List H} {an es : List Nat} : ∀ (l : List Oper) (ts : List (List (Nat × V) × V)) (ps : List (Option (Nat × Nat))) (i : Nat), planOk C an es l ps i = true → StayL C L hs l ts ps → StayP C L an es hs l ts i := by
 intro l
 induction l with
 | nil => intro ts ps i h1 h2; cases ts with
  | nil => trivial
  | cons x ts => exact h2.elim
 | cons o l ih =>
  intro ts ps i h1 h2
  cases ts with
  | nil => cases ps <;> exact h2.elim
  | cons x ts =>
   cases ps with
   | nil => exact h2.elim
   | cons p ps =>
    simp only [planOk, Bool.and_eq_true] at h1
    obtain ⟨a1, a2⟩ := h1
    obtain ⟨b1, b2⟩ := h2
    refine ⟨?_, ih ts ps (i + 1) a2 b2⟩
    cases p with
    | none =>
     simp only [Bool.or_eq_true] at a1
     rcases a1 with a1 | a1
     ·exact .inl a1
     ·exact .inr (.inl a1)
    | some q =>
     obtain ⟨lo, n⟩ := q
     simp only [Bool.and_eq_true, beq_iff] at a1
     obtain ⟨⟨c1, c2⟩, c3⟩ := a1
     refine .inr (.inr ⟨c1, ?_⟩)
     subst c2
     subst c3
     exact b1
theorem WP.drawn {C : Cfg} {ntm : Nat} {L : List Oper} {E : List (Nat × V)} {h : H} {id : Nat} {ops : Array Oper} {Q : Ex → List (Nat × V) → H → Prop} (ps : List (Option (Nat × Nat))) (hl : ops.toList = L) (hst : staticOk C L = true)
  (hp : planOk C (ancs L []) (effAt C L 0) L ps 0 = true)
  (hw : WPt C ntm L L E h [h] fun E' h' ts hs => StayL C L hs L ts ps ∧ Q .normal E' h') : WP C ntm (.region id ops true) E h Q := by
 refine WP.draw hl hst ?_
 intro env hE
 obtain ⟨N, env', h', E', tr, ts, hs', h1, h2, h3, h4, h5⟩ := hw env hE
 exact ⟨N, env', h', E', tr, ts, hs', h1, h2, h3, StayL.stay _ _ _ _ hp h4, h5⟩
theorem heaps2 {a b : H} {l : List H} {p : H → Prop} (ha : p a) (hb : p b) : ∀ x ∈ ((a :: b :: l).drop 0).take 2, p x := by
 intro x hx
 simp only [List.drop_zero, List.take_succ_cons, List.take_zero, List.mem_cons, List.not_mem_nil, or_false] at hx
 rcases hx with rfl | rfl
 ·exact ha
 ·exact hb
theorem heaps3 {a b c : H} {l : List H} {p : H → Prop} (ha : p a) (hb : p b) (hc : p c) : ∀ x ∈ ((a :: b :: c :: l).drop 0).take 3, p x := by
 intro x hx
 simp only [List.drop_zero, List.take_succ_cons, List.take_zero, List.mem_cons, List.not_mem_nil, or_false] at hx
 rcases hx with rfl | rfl | rfl
 ·exact ha
 ·exact hb
 ·exact hc
theorem ikBeq_self (k : IntKind) : ikBeq k k = true := by cases k <;> rfl
theorem intBeq_self (n : Int) : intBeq n n = true := by cases n <;> simp [intBeq]
theorem capBeq_self (c : Cap) : c.beq c = true := by cases c <;> simp [Cap.beq]
theorem beqSl (a b c : Nat) (d : Cap) : (V.sl a b c d).beq (.sl a b c d) = true := by simp [V.beq, capBeq_self]
theorem beqView {h : H} {v : V} {l : List Nat} (hv : View h v l) : v.beq v = true := by
 obtain ⟨_, hv⟩ := hv
 rcases hv with ⟨rfl | ⟨ea, rfl⟩, _⟩ | ⟨id, off, cap, n, cs, st, rfl, _⟩
 ·simp [V.beq]
 ·simp [V.beq]
 ·exact beqSl _ _ _ _
section
variable {C : Cfg} {ntm : Nat} {L rest : List Oper} {E : List (Nat × V)} {h : H} {hs : List H} {Q : List (Nat × V) → H → List (List (Nat × V) × V) → List H → Prop} {o : Oper} {d i : Nat} {v u r : V} {x y a b : Operand} {t t' : TypeId}
theorem zM (e : (o.op, wantE L E o.guard, o.dst, Nat.blt d ntm, isEff C o.op, lookO E x) = (Op.move x, some true, some d, true, false, some v)) (hw : WPt C ntm L rest ((d, v) :: E) h hs fun E' h' ts hs' => Q E' h' ((E, v) :: ts) hs') : WPt C ntm L (o :: rest) E h hs Q := by
  simp only [Prod.mk.injEq] at e; exact WPt.op e.2.1 e.2.2.1 e.2.2.2.1 e.2.2.2.2.1 (by rw [e.1]; exact o_move e.2.2.2.2.2) hw
theorem zA (e : (o.op, wantE L E o.guard, o.dst, Nat.blt d ntm, isEff C o.op, lookO E x) = (Op.assign x, some true, some d, true, false, some v)) (hw : WPt C ntm L rest ((d, v) :: E) h hs fun E' h' ts hs' => Q E' h' ((E, v) :: ts) hs') : WPt C ntm L (o :: rest) E h hs Q := by
  simp only [Prod.mk.injEq] at e; exact WPt.op e.2.1 e.2.2.1 e.2.2.2.1 e.2.2.2.2.1 (by rw [e.1]; exact o_assign e.2.2.2.2.2) hw
theorem zN {j k : Nat} (e : (o.op, wantE L E o.guard, o.dst, Nat.blt d ntm, isEff C o.op, lookO E x) = (Op.nilCheck x, some true, some d, true, false, some (V.ptr j k))) (hw : WPt C ntm L rest ((d, .ptr j k) :: E) h hs fun E' h' ts hs' => Q E' h' ((E, .ptr j k) :: ts) hs') : WPt C ntm L (o :: rest) E h hs Q := by
  simp only [Prod.mk.injEq] at e; exact WPt.op e.2.1 e.2.2.1 e.2.2.2.1 e.2.2.2.2.1 (by rw [e.1]; exact o_nil e.2.2.2.2.2) hw
theorem zF (e : (o.op, wantE L E o.guard, o.dst, Nat.blt d ntm, isEff C o.op, lookO E x) = (Op.fieldAddr t x i, some true, some d, true, false, some v)) (hf : fieldAddrV C.P t v i = some r) (hw : WPt C ntm L rest ((d, r) :: E) h hs fun E' h' ts hs' => Q E' h' ((E, r) :: ts) hs') : WPt C ntm L (o :: rest) E h hs Q := by
  simp only [Prod.mk.injEq] at e; exact WPt.op e.2.1 e.2.2.1 e.2.2.2.1 e.2.2.2.2.1 (by rw [e.1]; exact o_fa e.2.2.2.2.2 hf) hw
theorem zL (e : (o.op, wantE L E o.guard, o.dst, Nat.blt d ntm, isEff C o.op, lookO E x) = (Op.load t x, some true, some d, true, false, some v)) (hf : loadV C.P h t v = some r) (hw : WPt C ntm L rest ((d, r) :: E) h hs fun E' h' ts hs' => Q E' h' ((E, r) :: ts) hs') : WPt C ntm L (o :: rest) E h hs Q := by
  simp only [Prod.mk.injEq] at e; exact WPt.op e.2.1 e.2.2.1 e.2.2.2.1 e.2.2.2.2.1 (by rw [e.1]; exact o_load e.2.2.2.2.2 hf) hw
theorem zO (e : (wantE L E o.guard, o.dst, Nat.blt d ntm, isEff C o.op) = (some true, some d, true, false)) (ho : opE C.P E h o.op = some (v, h)) (hw : WPt C ntm L rest ((d, v) :: E) h hs fun E' h' ts hs' => Q E' h' ((E, v) :: ts) hs') : WPt C ntm L (o :: rest) E h hs Q := by
  simp only [Prod.mk.injEq] at e; exact WPt.op e.1 e.2.1 e.2.2.1 e.2.2.2 ho hw
end
end Go.Proofs.YtconhghphklfjaaGreat.Am
