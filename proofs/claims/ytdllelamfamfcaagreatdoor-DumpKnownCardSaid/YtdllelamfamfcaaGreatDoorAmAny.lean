/- The abstract machine: a function that walks over maps, in whatever order: the same comes out. -/
import Derived.Test.YtdllelamfamfcaaGreatDoorAmFast
namespace Go.Proofs.YtdllelamfamfcaaGreatDoor.Am
open Go

/- Heaps compared. -/
def mapBeq : List (V × V × Nat) → List (V × V × Nat) → Bool
  | [], [] => true
  | (a, b, n) :: l, (c, d, m) :: k => cond (V.beq a c && V.beq b d && Nat.beq n m) (mapBeq l k) false
  | _, _ => false
theorem mapBeq_ok : ∀ (l k : List (V × V × Nat)), mapBeq l k = true → l = k := by
  intro l
  induction l with
  | nil => intro k h; cases k with
    | nil => rfl
    | cons _ _ => simp [mapBeq] at h
  | cons x l ih =>
    intro k h
    cases k with
    | nil => simp [mapBeq] at h
    | cons y k =>
      obtain ⟨a, b, n⟩ := x
      obtain ⟨c, d, m⟩ := y
      simp only [mapBeq] at h
      cases hq : (V.beq a c && V.beq b d && Nat.beq n m) with
      | false => rw [hq] at h; cases h
      | true =>
        rw [hq, cond_true] at h
        simp only [Bool.and_eq_true, beq_iff] at hq
        rw [vBeq_ok a c hq.1.1, vBeq_ok b d hq.1.2, hq.2, ih k h]

def objBeq : Obj → Obj → Bool
  | .cells n cs st, .cells m ds su => Nat.beq n m && (st == su) && V.beqL cs ds
  | .map es k, .map fs j => Nat.beq k j && mapBeq es fs
  | _, _ => false
theorem objBeq_ok {a b : Obj} (h : objBeq a b = true) : a = b := by
  cases a <;> cases b <;> simp [objBeq] at h
  · rw [h.1.1, h.1.2, vBeqL_ok _ _ h.2]
  · rw [h.1, mapBeq_ok _ _ h.2]

def optLe : Option Obj → Option Obj → Bool
  | none, _ => true
  | some o, some o' => objBeq o o'
  | some _, none => false

def leT : T Obj → T Obj → Bool
  | .lf, _ => true
  | .nd l v r, .nd l' v' r' => cond (optLe v v') (cond (leT l l') (leT r r') false) false
  | .nd _ _ _, .lf => false

theorem leT_ok : ∀ (a b : T Obj), leT a b = true → ∀ id o, T.get a id = some o → T.get b id = some o := by
  intro a
  induction a with
  | lf => intro b _ id o h; simp [T.get_lf] at h
  | nd l v r ihl ihr =>
    intro b h id o hg
    cases b with
    | lf => simp [leT] at h
    | nd l' v' r' =>
      simp only [leT] at h
      cases h1 : optLe v v' with
      | false => rw [h1] at h; cases h
      | true =>
      rw [h1, cond_true] at h
      cases h2 : leT l l' with
      | false => rw [h2] at h; cases h
      | true =>
      rw [h2, cond_true] at h
      rw [T.get_nd] at hg ⊢
      by_cases h0 : id = 0
      · rw [beqT h0, cond_true] at hg ⊢
        subst hg
        cases v' with
        | none => cases h1
        | some o' => rw [objBeq_ok h1]
      · rw [beqF h0, cond_false] at hg ⊢
        by_cases hp : id % 2 = 1
        · rw [beqT hp, cond_true] at hg ⊢
          exact ihl l' h2 _ o hg
        · rw [beqF hp, cond_false] at hg ⊢
          exact ihr r' h _ o hg


def noIter : Option Obj → Option Obj
  | some (.iter _ _ _ _) => none
  | v => v

noncomputable def dropIters (t : T Obj) : T Obj := T.rec (motive := fun _ => T Obj) .lf (fun _ v _ l r => .nd l (noIter v) r) t

theorem dropIters_get : ∀ (t : T Obj) (id : Nat) (o : Obj), T.get (dropIters t) id = some o → T.get t id = some o := by
  intro t
  induction t with
  | lf => intro id o h; exact h
  | nd l v r ihl ihr =>
    intro id o h
    have h' : T.get (.nd (dropIters l) (noIter v) (dropIters r)) id = some o := h
    rw [T.get_nd] at h' ⊢
    by_cases h0 : id = 0
    · rw [beqT h0, cond_true] at h' ⊢
      unfold noIter at h'
      split at h'
      · cases h'
      · exact h'
    · rw [beqF h0, cond_false] at h' ⊢
      by_cases hp : id % 2 = 1
      · rw [beqT hp, cond_true] at h' ⊢
        exact ihl _ o h'
      · rw [beqF hp, cond_false] at h' ⊢
        exact ihr _ o h'

def flatM {α β : Type} (f : α → Option (List β)) : List α → Option (List β)
  | [] => some []
  | x :: l => match f x with
    | none => none
    | some a => match flatM f l with
      | none => none
      | some b => some (a ++ b)

theorem flatM_mem {α β : Type} {f : α → Option (List β)} : ∀ (l : List α) (R : List β), flatM f l = some R → ∀ x ∈ l, ∃ r, f x = some r ∧ ∀ y ∈ r, y ∈ R := by
  intro l
  induction l with
  | nil => intro R _ x hx; cases hx
  | cons z l ih =>
    intro R h x hx
    simp only [flatM] at h
    cases hz : f z with
    | none => simp [hz] at h
    | some a =>
      cases hl : flatM f l with
      | none => simp [hz, hl] at h
      | some b =>
        simp only [hz, hl, Option.some.injEq] at h
        subst h
        rcases List.mem_cons.1 hx with rfl | hx
        · exact ⟨a, hz, fun y hy => List.mem_append_left _ hy⟩
        · obtain ⟨r, h1, h2⟩ := ih b hl x hx
          exact ⟨r, h1, fun y hy => List.mem_append_right _ (h2 y hy)⟩

section
variable (C : Cfg) (self : Self)

noncomputable def opAll (env : Env) (h : H) (o : Oper) : Option (List (V × H)) := match o.op with
  | .next it false => match evO env it with
    | some (.ptr r off) => cond (Nat.beq off 0) (nextAll h r) none
    | _ => none
  | _ => match evOp C self env h o with
    | some q => some [q]
    | none => none

noncomputable def opsAll (ops : List Oper) : List Oper → St → Option (List St)
  | [], s => some [s]
  | o :: l, s => cond (wantedV ops s.env o)
    (match opAll C self s.env s.h o with
      | some qs => flatM (fun q => match s.put o.dst q.1 q.2 with
        | some s' => opsAll ops l s'
        | none => none) qs
      | none => none)
    (match s.put o.dst undefV s.h with
      | some s' => opsAll ops l s'
      | none => none)

/-- What a block makes of an end. -/
def blkP (id : Nat) (p : Ex × St) : Ex × St := match p.1 with
  | .exit i => cond (Nat.beq i id) (.normal, p.2) (.exit i, p.2)
  | _ => p

abbrev SelfN := Code → St → Option (List (Ex × St))

noncomputable def stepAll (sn : SelfN) (code : Code) (s : St) : Option (List (Ex × St)) := match code with
  | .region id ops draw => cond draw (match self (.region id ops draw) s with
      | some r => some [r]
      | none => none) (match opsAll C self ops.toList ops.toList s with
      | some L => some (L.map fun s' => (.normal, s'))
      | none => none)
  | .seq a b => match sn a s with
    | some L => flatM (fun p => match p.1 with
      | .normal => sn b p.2
      | _ => some [p]) L
    | none => none
  | .cond x a b => match evO s.env x with
    | some (.bool t) => sn (cond t a b) s
    | _ => none
  | .block id b => match sn b s with
    | some L => some (L.map (blkP id))
    | none => none
  | .loop b => match sn b s with
    | some L => flatM (fun p => match p.1 with
      | .normal => sn (.loop b) p.2
      | _ => some [p]) L
    | none => none
  | c => match self c s with
    | some r => some [r]
    | none => none

noncomputable def evAll (m : Nat) : SelfN := Nat.rec (motive := fun _ => SelfN) (fun _ _ => none) (fun _ ih => stepAll C self ih) m
end

section
variable {C : Cfg} {self : Self}

def AllPost (L : List (Ex × St)) (c : Ctx) (a : Act) (w : World) (e : Exit) (a' : Act) (w' : World) : Prop :=
  ∃ p ∈ L, e = exOf p.1 ∧ a'.defers = a.defers ∧ ∃ c', Rel c' p.2.h w' ∧ EnvOk c' p.2.env p.2.ntm a' ∧ Stp c w c' w'

def AllOk (P : Program) (sn : SelfN) : Prop := ∀ (code : Code) (s : St) (L : List (Ex × St)), sn code s = some L → ∀ (c : Ctx) (a : Act) (w : World), Rel c s.h w → EnvOk c s.env s.ntm a →
  code.wpIn (Fr none) 0 P (AllPost L c a w) a w

def LoopAll (P : Program) (sn : SelfN) (m : Nat) : Prop := ∀ (b : Code) (s : St) (L : List (Ex × St)), sn (.loop b) s = some L → ∀ (c : Ctx) (a : Act) (w : World) (Q : Exit → Act → World → Prop), Rel c s.h w → EnvOk c s.env s.ntm a →
  (∀ e a' w', AllPost L c a w e a' w' → Q e a' w') → Code.roundsIn (Fr none) 0 P b Q m a w

theorem AllPost.of {L L' : List (Ex × St)} {c c₁ : Ctx} {a a₁ : Act} {w w₁ : World} {e : Exit} {a' : Act} {w' : World} (h : AllPost L c₁ a₁ w₁ e a' w') (hL : ∀ p ∈ L, p ∈ L') (hd : a₁.defers = a.defers) (hs : Stp c w c₁ w₁) :
    AllPost L' c a w e a' w' := by
  obtain ⟨p, hp, h1, h2, c', h3, h4, h5⟩ := h
  exact ⟨p, hL p hp, h1, h2.trans hd, c', h3, h4, hs.trans h5⟩

theorem opAll_ok (hS : SelfOkR C.P self) (hT : ToldOk C) {c : Ctx} {σ : H} {w : World} {env : Env} {a : Act} {o : Oper} {qs : List (V × H)} (h : Rel c σ w) (he : OpnOk c env a o) (hr : opAll C self env σ o = some qs) :
    (∃ q ∈ qs, OpOk C.P o a c w q.1 q.2) ∧ ∀ d, o.op ≠ .defer d := by
  unfold opAll at hr
  split at hr
  · rename_i it ho
    refine ⟨?_, fun d hd => by rw [ho] at hd; cases hd⟩
    split at hr
    · rename_i r off hx
      cases hq : Nat.beq off 0 with
      | false => rw [hq] at hr; cases hr
      | true =>
        rw [hq, cond_true] at hr
        have := beq_iff.1 hq
        subst this
        obtain ⟨f1, f2⟩ := he it (by simp [ho, Op.operands]) _ hx
        obtain ⟨q, hq1, hg⟩ := nextAll_got (P := C.P) h hr o.type
        exact ⟨q, hq1, wp_got (s := Instr.next (conc c (.ptr r 0)) false o.type) (by simp only [execOp, ho, f1]) hg⟩
    · cases hr
  · cases hev : evOp C self env σ o with
    | none => rw [hev] at hr; cases hr
    | some q =>
      rw [hev] at hr
      simp only [Option.some.injEq] at hr
      subst hr
      obtain ⟨v, σ'⟩ := q
      exact ⟨⟨(v, σ'), List.mem_singleton.2 rfl, evOp_ok hS hT h he hev⟩, evOp_nodefer hev⟩

theorem opsAll_ok (hS : SelfOkR C.P self) (hT : ToldOk C) {ops : Array Oper} {Q : Exit → Act → World → Prop} : ∀ (l : List Oper) (k : Nat) (s : St) (L : List St) (c : Ctx) (a : Act) (w : World),
    (∀ j, l[j]? = ops[k + j]?) → opsAll C self ops.toList l s = some L → Rel c s.h w → EnvOk c s.env s.ntm a →
    (∀ s' ∈ L, ∀ c' a' w', Rel c' s'.h w' → EnvOk c' s'.env s'.ntm a' → Stp c w c' w' → a'.defers = a.defers → Q .normal a' w') →
    wpOpsIn (Fr none) 0 C.P ops Q (List.range' k l.length) a w := by
  intro l
  induction l with
  | nil =>
    intro k s L c a w _ hr h he hQ
    simp only [opsAll, Option.some.injEq] at hr
    subst hr
    simp only [List.length_nil, List.range'_zero, wpOpsIn]
    exact hQ s (List.mem_singleton.2 rfl) c a w h he (Stp.refl c w) rfl
  | cons o l ih =>
    intro k s L c a w hl hr h he hQ
    have h0 : ops[k]? = some o := by simpa using (hl 0).symm
    have hl' : ∀ j, l[j]? = ops[k + 1 + j]? := fun j => by have := hl (j + 1); simpa [Nat.add_assoc, Nat.add_comm 1 j] using this
    simp only [List.length_cons, List.range'_succ, wpOpsIn, h0]
    rw [wantedV_ok he]
    simp only [opsAll] at hr
    cases hw : wantedV ops.toList s.env o with
    | true =>
      rw [hw, cond_true] at hr
      simp only [if_true]
      cases ho : opAll C self s.env s.h o with
      | none => simp [ho] at hr
      | some qs =>
        simp only [ho] at hr
        obtain ⟨⟨q, hq, hop⟩, hnd⟩ := opAll_ok hS hT h (he.opn o) ho
        obtain ⟨r, hr1, hr2⟩ := flatM_mem qs L hr q hq
        refine hop.wpIn hnd ?_
        intro c' w' r1 r2 r3
        cases hp : s.put o.dst q.1 q.2 with
        | none => simp [hp] at hr1
        | some s₁ =>
          simp only [hp] at hr1
          obtain ⟨p1, p2, p3⟩ := St.put_ok (he.ext r2.ext) r3 hp
          refine ih (k + 1) s₁ r c' _ w' hl' hr1 (by rw [p2]; exact r1) p1 ?_
          intro s' hs' c'' a'' w'' q1 q2 q3 q4
          exact hQ s' (hr2 s' hs') c'' a'' w'' q1 q2 (r2.trans q3) (by rw [q4]; cases o.dst <;> rfl)
    | false =>
      rw [hw, cond_false] at hr
      simp only [Bool.false_eq_true, if_false]
      refine ⟨fun _ _ => trivial, ?_⟩
      cases hp : s.put o.dst undefV s.h with
      | none => simp [hp] at hr
      | some s₁ =>
        simp only [hp] at hr
        obtain ⟨p1, p2, p3⟩ := St.put_ok he (show wf c undefV by simp [undefV, wf, wfL]) hp
        rw [conc_undef] at p1
        refine ih (k + 1) s₁ L c _ w hl' hr (by rw [p2]; exact h) p1 ?_
        intro s' hs' c'' a'' w'' q1 q2 q3 q4
        exact hQ s' hs' c'' a'' w'' q1 q2 q3 (by rw [q4]; cases o.dst <;> rfl)

theorem loopAll_step {m : Nat} {sn : SelfN} (hN : AllOk C.P sn) (hL : LoopAll C.P sn m) : LoopAll C.P (stepAll C self sn) (m + 1) := by
  intro b s L hr c a w Q h he hQ
  rw [roundsIn_succ]
  simp only [stepAll] at hr
  cases hb : sn b s with
  | none => rw [hb] at hr; cases hr
  | some R =>
    simp only [hb] at hr
    refine wpIn_mono (hN b s R hb c a w h he) ?_
    rintro e a₁ w₁ ⟨p, hp, rfl, q2, c₁, q3, q4, q5⟩
    obtain ⟨r, hr1, hr2⟩ := flatM_mem R L hr p hp
    obtain ⟨ex, s₁⟩ := p
    cases ex with
    | normal => exact hL b s₁ r hr1 c₁ a₁ w₁ Q q3 q4 fun e₂ a₂ w₂ hp₂ => hQ _ _ _ (hp₂.of hr2 q2 q5)
    | exit i =>
      simp only [Option.some.injEq] at hr1
      subst hr1
      exact hQ _ _ _ ⟨_, hr2 _ (List.mem_singleton.2 rfl), rfl, q2, c₁, q3, q4, q5⟩
    | ret =>
      simp only [Option.some.injEq] at hr1
      subst hr1
      exact hQ _ _ _ ⟨_, hr2 _ (List.mem_singleton.2 rfl), rfl, q2, c₁, q3, q4, q5⟩

theorem stepAll_ok {m : Nat} {sn : SelfN} (hS : SelfOkR C.P self) (hT : ToldOk C) (hN : AllOk C.P sn) (hL : LoopAll C.P sn m) : AllOk C.P (stepAll C self sn) := by
  intro code s L hr c a w h he
  have one : ∀ {code : Code}, (match self code s with
      | some r => some [r]
      | none => none) = some L → code.wpIn (Fr none) 0 C.P (AllPost L c a w) a w := by
    intro code hr
    cases hs : self code s with
    | none => rw [hs] at hr; cases hr
    | some r =>
      obtain ⟨ex, s'⟩ := r
      rw [hs] at hr
      simp only [Option.some.injEq] at hr
      subst hr
      refine wpIn_mono (hS code s ex s' hs none c a w h he) ?_
      rintro e a' w' ⟨h1, h2, c', h3, h4, h5⟩
      exact ⟨_, List.mem_singleton.2 rfl, h1, h2, c', h3, h4, h5⟩
  cases code with
  | region id ops draw =>
    simp only [stepAll] at hr
    cases draw with
    | true => exact one hr
    | false =>
      simp only [cond_false] at hr
      cases ho : opsAll C self ops.toList ops.toList s with
      | none => rw [ho] at hr; cases hr
      | some R =>
        rw [ho] at hr
        simp only [Option.some.injEq] at hr
        subst hr
        refine wpIn_region ?_
        rw [List.range_eq_range', ← Array.length_toList]
        refine opsAll_ok hS hT ops.toList 0 s R c a w (fun j => by rw [Nat.zero_add, Array.getElem?_toList]) ho h he ?_
        intro s' hs' c' a' w' r1 r2 r3 r4
        exact ⟨(.normal, s'), List.mem_map.2 ⟨s', hs', rfl⟩, rfl, r4, c', r1, r2, r3⟩
  | seq x y =>
    simp only [stepAll] at hr
    cases hx : sn x s with
    | none => rw [hx] at hr; cases hr
    | some R =>
      simp only [hx] at hr
      refine wpIn_seq (wpIn_mono (hN x s R hx c a w h he) ?_)
      rintro e a₁ w₁ ⟨p, hp, rfl, q2, c₁, q3, q4, q5⟩
      obtain ⟨r, hr1, hr2⟩ := flatM_mem R L hr p hp
      obtain ⟨ex, s₁⟩ := p
      cases ex with
      | normal => exact wpIn_mono (hN y s₁ r hr1 c₁ a₁ w₁ q3 q4) fun e₂ a₂ w₂ hp₂ => hp₂.of hr2 q2 q5
      | exit i =>
        simp only [Option.some.injEq] at hr1
        subst hr1
        exact ⟨_, hr2 _ (List.mem_singleton.2 rfl), rfl, q2, c₁, q3, q4, q5⟩
      | ret =>
        simp only [Option.some.injEq] at hr1
        subst hr1
        exact ⟨_, hr2 _ (List.mem_singleton.2 rfl), rfl, q2, c₁, q3, q4, q5⟩
  | cond x y z =>
    simp only [stepAll] at hr
    split at hr
    · rename_i t hx
      obtain ⟨e1, _⟩ := evO_ok he hx
      refine wpIn_cond (t := t) (by rw [e1]; rfl) ?_
      have := hN (cond t y z) s L hr c a w h he
      cases t <;> simpa using this
    · cases hr
  | block id b =>
    simp only [stepAll] at hr
    cases hb : sn b s with
    | none => rw [hb] at hr; cases hr
    | some R =>
      simp only [hb, Option.some.injEq] at hr
      subst hr
      refine wpIn_block (wpIn_mono (hN b s R hb c a w h he) ?_)
      rintro e a₁ w₁ ⟨p, hp, rfl, q2, c₁, q3, q4, q5⟩
      obtain ⟨ex, s₁⟩ := p
      have hm : blkP id (ex, s₁) ∈ R.map (blkP id) := List.mem_map_of_mem hp
      cases ex with
      | normal => simp only [blkP] at hm; simp only [exOf, Exit.inBlock]; exact ⟨_, hm, rfl, q2, c₁, q3, q4, q5⟩
      | exit i =>
        by_cases hi : i = id
        · simp only [blkP, beqT hi, cond_true] at hm
          simp only [exOf, Exit.inBlock, hi, if_true]
          exact ⟨_, hm, rfl, q2, c₁, q3, q4, q5⟩
        · simp only [blkP, beqF hi, cond_false] at hm
          simp only [exOf, Exit.inBlock, hi, if_false]
          exact ⟨_, hm, rfl, q2, c₁, q3, q4, q5⟩
      | ret => simp only [blkP] at hm; simp only [exOf, Exit.inBlock]; exact ⟨_, hm, rfl, q2, c₁, q3, q4, q5⟩
  | loop b => exact wpIn_loop_rounds (m + 1) (loopAll_step (self := self) hN hL b s L hr c a w _ h he (fun _ _ _ hq => hq))
  | _ => exact one hr

theorem evAll_ok (hS : SelfOkR C.P self) (hT : ToldOk C) : ∀ m, AllOk C.P (evAll C self m) ∧ LoopAll C.P (evAll C self m) m := by
  intro m
  induction m with
  | zero => exact ⟨(by intro _ _ _ h; cases h), (by intro _ _ _ h; cases h)⟩
  | succ m ih => exact ⟨stepAll_ok hS hT ih.1 ih.2, loopAll_step ih.1 ih.2⟩
end

noncomputable def resAll (C : Cfg) (fn : Func) (p : Ex × St) : Option (V × H) := match p.1 with
  | .exit _ => none
  | _ => match mapO (resV C.P p.2) fn.results.toList with
    | some [v] => some (v, p.2.h)
    | some vs => some (.tup vs, p.2.h)
    | none => none

def sameAll (v : V) (h : H) : List (V × H) → Bool
  | [] => true
  | q :: l => cond (V.beq v q.1 && Nat.beq h.next q.2.next && leT h.tr q.2.tr) (sameAll v h l) false

noncomputable def toldAny (C : Cfg) (n m : Nat) (f : FuncId) (args : List V) (h : H) : Option (V × H) := match C.P.funcs[f]? with
  | none => none
  | some fn => match fn.body with
    | none => none
    | some code => cond (Nat.blt fn.ntmps args.length) none (match evAll C (evF C n) m code ⟨bindArgs args 0 .lf, fn.ntmps, h⟩ with
      | none => none
      | some L => match mapO (resAll C fn) L with
        | some ((v, h₁) :: R) => cond (sameAll v ⟨h₁.next, dropIters h₁.tr⟩ R) (some (v, ⟨h₁.next, dropIters h₁.tr⟩)) none
        | _ => none)

theorem mapO_mem {α β : Type} {f : α → Option β} : ∀ (l : List α) (R : List β), mapO f l = some R → ∀ x ∈ l, ∃ y ∈ R, f x = some y := by
  intro l
  induction l with
  | nil => intro R _ x hx; cases hx
  | cons z l ih =>
    intro R h x hx
    simp only [mapO] at h
    cases hz : f z with
    | none => simp [hz] at h
    | some y =>
      cases hl : mapO f l with
      | none => simp [hz, hl] at h
      | some m =>
        simp only [hz, hl, Option.some.injEq] at h
        subst h
        rcases List.mem_cons.1 hx with rfl | hx
        · exact ⟨y, List.mem_cons_self, hz⟩
        · obtain ⟨u, h1, h2⟩ := ih m hl x hx
          exact ⟨u, List.mem_cons_of_mem _ h1, h2⟩

theorem sameAll_ok {v : V} {h : H} : ∀ (l : List (V × H)), sameAll v h l = true → ∀ q ∈ l, q.1 = v ∧ h.next = q.2.next ∧ ∀ id o, T.get h.tr id = some o → T.get q.2.tr id = some o := by
  intro l
  induction l with
  | nil => intro _ q hq; cases hq
  | cons x l ih =>
    intro hs q hq
    simp only [sameAll] at hs
    cases hb : (V.beq v x.1 && Nat.beq h.next x.2.next && leT h.tr x.2.tr) with
    | false => rw [hb] at hs; cases hs
    | true =>
      rw [hb, cond_true] at hs
      simp only [Bool.and_eq_true, beq_iff] at hb
      rcases List.mem_cons.1 hq with rfl | hq
      · exact ⟨(vBeq_ok _ _ hb.1.1).symm, hb.1.2, leT_ok _ _ hb.2⟩
      · exact ih hs q hq

theorem Rel.lessH {c : Ctx} {σ σ' : H} {w : World} (h : Rel c σ w) (hn : σ'.next = σ.next) (hs : ∀ id o, T.get σ'.tr id = some o → T.get σ.tr id = some o) : Rel c σ' w :=
  ⟨hn.trans h.next, fun id o ho => h.live id o (hs id o ho), h.blk, h.zz, fun i j o o' hi hj he => h.inj i j o o' (hs i o hi) (hs j o' hj) he,
    fun id o ho => h.obj id o (hs id o ho), fun id cs st ho => h.one id cs st (hs id _ ho)⟩

theorem toldAny_ok {C : Cfg} {c : Ctx} {σ : H} {w : World} (hm : C.P.follows .mixedOrders = true) (hT : ToldOk C) {n m : Nat} {f : FuncId} {args : List V} {v : V} {σ' : H} (hr : toldAny C n m f args σ = some (v, σ')) (h : Rel c σ w)
    (hw : ∀ x ∈ args, wf c x) : CallOk C.P f args c w v σ' := by
  have hS := (ev_okR (C := C) hm hT n).1
  unfold toldAny at hr
  rw [evF_eq] at hr
  split at hr
  · cases hr
  · rename_i fn hf
    split at hr
    · cases hr
    · rename_i code hb
      cases hq : Nat.blt fn.ntmps args.length with
      | true => rw [hq] at hr; cases hr
      | false =>
        rw [hq, cond_false] at hr
        have hle : args.length ≤ fn.ntmps := by
          rcases Nat.lt_or_ge fn.ntmps args.length with h' | h'
          · rw [blt_iff.2 h'] at hq; cases hq
          · exact h'
        have henv := bindArgs_env (c := c) hle hw
        split at hr
        · cases hr
        · rename_i L hL
          split at hr
          · rename_i v₁ h₁ R hR
            cases hsm : sameAll v₁ ⟨h₁.next, dropIters h₁.tr⟩ R with
            | false => rw [hsm] at hr; cases hr
            | true =>
              rw [hsm, cond_true] at hr
              simp only [Option.some.injEq, Prod.mk.injEq] at hr
              obtain ⟨rfl, rfl⟩ := hr
              have hall : ∀ q ∈ (v₁, h₁) :: R, q.1 = v₁ ∧ h₁.next = q.2.next ∧ ∀ id o, T.get (dropIters h₁.tr) id = some o → T.get q.2.tr id = some o := by
                intro q hq
                rcases List.mem_cons.1 hq with rfl | hq
                · exact ⟨rfl, rfl, fun id o ho => dropIters_get _ id o ho⟩
                · exact sameAll_ok R hsm q hq
              have hwp := (evAll_ok hS hT m).1 code _ L hL c _ w h henv
              unfold CallOk
              refine calls_of_wp hf hb (wpIn_wide.1 (wpIn_mono hwp ?_))
              rintro e a' w' ⟨p, hp, rfl, hd, c', r1, r2, r3⟩
              obtain ⟨q, hq, hres⟩ := mapO_mem L _ hR p hp
              obtain ⟨q1, q2, q3⟩ := hall q hq
              obtain ⟨ex, s⟩ := p
              have fin : (match mapO (resV C.P s) fn.results.toList with
                  | some [v] => some (v, s.h)
                  | some vs => some (.tup vs, s.h)
                  | none => none) = some q → a'.defers = [] ∧ ∃ x, (results fn a'.tmps).run C.P w' = .ok x w' ∧ ∃ c'', Ending.returned x = .returned (conc c'' v₁) ∧ wf c'' v₁ ∧ Rel c'' ⟨h₁.next, dropIters h₁.tr⟩ w' ∧ Stp c w c'' w' := by
                intro hmo
                refine ⟨hd, ?_⟩
                cases hmm : mapO (resV C.P s) fn.results.toList with
                | none => simp [hmm] at hmo
                | some vs =>
                  obtain ⟨t1, t2⟩ := results_ok r1 r2 hmm
                  refine ⟨_, t1, c', ?_⟩
                  rw [hmm] at hmo
                  split at hmo
                  · rename_i v0 he0
                    simp only [Option.some.injEq] at he0
                    subst he0
                    simp only [Option.some.injEq] at hmo
                    subst hmo
                    simp only at q1 q2 q3
                    subst q1
                    exact ⟨by simp, t2 _ (by simp), r1.lessH q2 q3, r3⟩
                  · rename_i vs' hne he0
                    simp only [Option.some.injEq] at he0
                    subst he0
                    simp only [Option.some.injEq] at hmo
                    subst hmo
                    simp only at q1 q2 q3
                    subst q1
                    refine ⟨?_, by simp only [wf, wfL_iff]; exact t2, r1.lessH q2 q3, r3⟩
                    rw [dif_neg]
                    · simp [conc, concL_eq]
                    · intro hsz
                      simp only [List.size_toArray, List.length_map] at hsz
                      obtain ⟨v0, rfl⟩ := List.length_eq_one_iff.1 hsz
                      exact hne v0 rfl
                  · cases hmo
              cases ex with
              | normal => simpa [bodyPost, exOf] using fin hres
              | exit i => cases hres
              | ret => simpa [bodyPost, exOf] using fin hres
          · cases hr

end Go.Proofs.YtdllelamfamfcaaGreatDoor.Am
