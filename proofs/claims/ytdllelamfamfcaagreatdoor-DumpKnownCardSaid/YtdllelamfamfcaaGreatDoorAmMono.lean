/- The abstract machine: more fuel gives the same. -/
import Derived.Test.YtdllelamfamfcaaGreatDoorAmSound
namespace Go.Proofs.YtdllelamfamfcaaGreatDoor.Am
open Go

def SelfLe (f g : Self) : Prop := ∀ c s r, f c s = some r → g c s = some r

section
variable {C : Cfg} {f g : Self}

theorem callF_mono (h : SelfLe f g) {k : Nat} {args : List V} {σ : H} {r : V × H} (hr : callF C f k args σ = some r) : callF C g k args σ = some r := by
  unfold callF at hr ⊢
  cases ht : C.told k with
  | some t => simp only [ht] at hr ⊢; exact hr
  | none =>
    simp only [ht] at hr ⊢
    cases hf : C.P.funcs[k]? with
    | none => simp [hf] at hr
    | some fn =>
      simp only [hf] at hr ⊢
      cases hb : fn.body with
      | none => simp [hb] at hr
      | some c =>
        simp only [hb] at hr ⊢
        cases hq : (fn.name == "runtime.NumGoroutine" || Nat.blt fn.ntmps args.length) with
        | true => simp [hq] at hr
        | false =>
          simp only [hq, cond_false] at hr ⊢
          cases hs : f c ⟨bindArgs args 0 .lf, fn.ntmps, σ⟩ with
          | none => simp [hs] at hr
          | some q => rw [h _ _ _ hs]; rw [hs] at hr; exact hr

theorem roundV_mono (h : SelfLe f g) {id : Nat} {args : List V} {σ : H} {r : V × H} (hr : roundV f id args σ = some r) : roundV g id args σ = some r := by
  unfold roundV at hr ⊢
  cases ho : σ.tr.get id with
  | none => simp [ho] at hr
  | some o =>
    simp only [ho] at hr ⊢
    cases o with
    | loop busy ntm env ps as bd =>
      cases busy with
      | true => cases hr
      | false =>
        simp only at hr ⊢
        cases he : bindPs ntm ps args env with
        | none => simp [he] at hr
        | some e =>
          simp only [he] at hr ⊢
          cases h1 : f as ⟨e, ntm, σ⟩ with
          | none => simp [h1] at hr
          | some q =>
            rw [h as _ _ h1]
            simp only [h1] at hr
            split at hr
            · rename_i s₁ hq
              simp only [Option.some.injEq] at hq
              subst hq
              split at hr
              · rename_i n₁ env₁ ps₁ as₁ bd₁ hg₁
                split at hr
                · rename_i s₂ hs₂
                  rw [h bd _ _ hs₂]
                  exact hr
                · first
                    | (cases hr; done)
                    | (rename_i hs₂; cases hr)
              · cases hr
            · cases hr
    | _ => cases hr

theorem evOp_mono (h : SelfLe f g) {env : Env} {σ : H} {o : Oper} {r : V × H} (hr : evOp C f env σ o = some r) : evOp C g env σ o = some r := by
  unfold evOp at hr ⊢
  cases hop : o.op <;> simp only [hop] at hr ⊢ <;> try exact hr
  rename_i cl
  unfold evCall at hr ⊢
  cases ha : evArgs env cl.args.toList with
  | none => simp [ha] at hr
  | some args =>
    simp only [ha] at hr ⊢
    cases hc : cl.callee with
    | builtin b => simp only [hc] at hr ⊢; exact hr
    | value x =>
      simp only [hc] at hr ⊢
      cases hx : evO env x with
      | none => simp [hx] at hr
      | some fv =>
        simp only [hx] at hr ⊢
        unfold callV at hr ⊢
        split at hr
        · rename_i k first captured
          cases hb : hasBody C.P k with
          | true =>
            rw [hb, cond_true] at hr
            simp only [hb, cond_true]
            exact callF_mono h hr
          | false =>
            rw [hb, cond_false] at hr
            simp only [hb, cond_false]
            exact hr
        · exact roundV_mono h hr
        · cases hr
    | invoke x m =>
      simp only [hc] at hr ⊢
      split at hr
      · rename_i t v hx
        try simp only [hx]
        cases hm : methV C.P t m with
        | none => simp [hm] at hr
        | some k => simp only [hm] at hr ⊢; exact callF_mono h hr
      · cases hr

theorem evOps_mono (h : SelfLe f g) {L : List Oper} : ∀ (l : List Oper) (s s' : St), evOps C f L l s = some s' → evOps C g L l s = some s' := by
  intro l
  induction l with
  | nil => intro s s' hr; exact hr
  | cons o l ih =>
    intro s s' hr
    simp only [evOps] at hr ⊢
    cases hw : wantedV L s.env o with
    | true =>
      simp only [hw, cond_true] at hr ⊢
      cases ho : evOp C f s.env s.h o with
      | none => simp [ho] at hr
      | some q =>
        obtain ⟨v, h1⟩ := q
        rw [evOp_mono h ho]
        simp only [ho] at hr ⊢
        cases hp : s.put o.dst v h1 with
        | none => simp [hp] at hr
        | some s1 => simp only [hp] at hr ⊢; exact ih _ _ hr
    | false =>
      simp only [hw, cond_false] at hr ⊢
      cases hp : s.put o.dst undefV s.h with
      | none => simp [hp] at hr
      | some s1 => simp only [hp] at hr ⊢; exact ih _ _ hr

theorem trace_mono (h : SelfLe f g) {L : List Oper} : ∀ (l : List Oper) (s : St) (hs : List H) (r : List (Env × V) × List H × St), trace C f L l s hs = some r → trace C g L l s hs = some r := by
  intro l
  induction l with
  | nil => intro s hs r hr; exact hr
  | cons o l ih =>
    intro s hs r hr
    simp only [trace] at hr ⊢
    have key : ∀ q, cond (wantedV L s.env o) (evOp C f s.env s.h o) (some (undefV, s.h)) = some q → cond (wantedV L s.env o) (evOp C g s.env s.h o) (some (undefV, s.h)) = some q := by
      intro q hq
      cases hw : wantedV L s.env o with
      | true => simp only [hw, cond_true] at hq ⊢; exact evOp_mono h hq
      | false => simp only [hw, cond_false] at hq ⊢; exact hq
    cases hc : cond (wantedV L s.env o) (evOp C f s.env s.h o) (some (undefV, s.h)) with
    | none => simp [hc] at hr
    | some q =>
      obtain ⟨v, h1⟩ := q
      rw [key _ hc]
      simp only [hc] at hr ⊢
      cases hp : s.put o.dst v h1 with
      | none => simp [hp] at hr
      | some s1 =>
        simp only [hp] at hr ⊢
        cases ht : trace C f L l s1 (cond (isEff C o.op) (hs ++ [h1]) hs) with
        | none => simp [ht] at hr
        | some z => rw [ih _ _ _ ht]; rw [ht] at hr; exact hr

theorem sameIn_mono (h : SelfLe f g) {L : List Oper} {o : Oper} {x : Env × V} : ∀ (l : List H), sameIn C f L o x l = true → sameIn C g L o x l = true := by
  intro l
  induction l with
  | nil => intro hr; exact hr
  | cons y l ih =>
    intro hr
    simp only [sameIn] at hr ⊢
    cases hw : wantedV L x.1 o with
    | false => simp
    | true =>
      simp only [hw, cond_true] at hr ⊢
      cases ho : evOp C f x.1 y o with
      | none => simp [ho] at hr
      | some q =>
        rw [evOp_mono h ho]
        simp only [ho] at hr ⊢
        cases hb : q.1.beq x.2 with
        | false => simp only [hb] at hr; cases hr
        | true => simp only [hb, cond_true] at hr ⊢; exact ih hr

theorem stayOk_mono (h : SelfLe f g) {L : List Oper} {as es : List Nat} {hs : List H} : ∀ (l : List Oper) (tr : List (Env × V)) (i : Nat), stayOk C f L as es hs l tr i = true → stayOk C g L as es hs l tr i = true := by
  intro l
  induction l with
  | nil => intro tr i hr; cases tr <;> exact hr
  | cons o l ih =>
    intro tr i hr
    cases tr with
    | nil => exact hr
    | cons x tr =>
      simp only [stayOk] at hr ⊢
      cases he : isEff C o.op with
      | true => simp only [he, cond_true] at hr ⊢; exact ih _ _ hr
      | false =>
        simp only [he, cond_false] at hr ⊢
        cases h1 : (loGap ((nth as i).getD 0) es && Nat.beq (loOf ((nth as i).getD 0) es) (hiOf as i es)) with
        | true => simp only [h1, cond_true] at hr ⊢; exact ih _ _ hr
        | false =>
          simp only [h1, cond_false] at hr ⊢
          cases h2 : (loGap ((nth as i).getD 0) es && sameIn C f L o x ((hs.drop (loOf ((nth as i).getD 0) es)).take (hiOf as i es + 1 - loOf ((nth as i).getD 0) es))) with
          | false => rw [h2] at hr; cases hr
          | true =>
            rw [h2, cond_true] at hr
            rw [Bool.and_eq_true] at h2
            rw [h2.1, sameIn_mono h _ h2.2]
            exact ih _ _ hr

theorem evDraw_mono (h : SelfLe f g) {L : List Oper} {s s' : St} (hr : evDraw C f L s = some s') : evDraw C g L s = some s' := by
  unfold evDraw at hr ⊢
  cases hst : staticOk C L with
  | false => rw [hst] at hr; cases hr
  | true =>
    simp only [hst, cond_true] at hr ⊢
    cases ht : trace C f L L s [s.h] with
    | none => simp [ht] at hr
    | some q =>
      rw [trace_mono h _ _ _ _ ht]
      simp only [ht] at hr ⊢
      cases hq : stayOk C f L (ancs L []) (effAt C L 0) q.2.1 L q.1 0 with
      | false => rw [hq] at hr; cases hr
      | true => rw [stayOk_mono h _ _ _ hq]; rw [hq] at hr; exact hr

theorem evStep_mono (h : SelfLe f g) : SelfLe (evStep C f) (evStep C g) := by
  intro c s r hr
  cases c with
  | region id ops draw =>
    simp only [evStep] at hr ⊢
    cases draw with
    | true =>
      simp only [cond_true] at hr ⊢
      cases hd : evDraw C f ops.toList s with
      | none => simp [hd] at hr
      | some s1 => rw [evDraw_mono h hd]; rw [hd] at hr; exact hr
    | false =>
      simp only [cond_false] at hr ⊢
      cases hd : evOps C f ops.toList ops.toList s with
      | none => simp [hd] at hr
      | some s1 => rw [evOps_mono h _ _ _ hd]; rw [hd] at hr; exact hr
  | seq a b =>
    simp only [evStep] at hr ⊢
    cases ha : f a s with
    | none => simp [ha] at hr
    | some q =>
      obtain ⟨ex, s1⟩ := q
      rw [h _ _ _ ha]
      rw [ha] at hr
      cases ex with
      | normal => exact h _ _ _ hr
      | exit i => exact hr
      | ret => exact hr
  | cond x a b =>
    simp only [evStep] at hr ⊢
    split at hr
    · exact h _ _ _ hr
    · cases hr
  | block id b =>
    simp only [evStep] at hr ⊢
    cases ha : f b s with
    | none => simp [ha] at hr
    | some q => rw [h _ _ _ ha]; rw [ha] at hr; exact hr
  | loop b =>
    simp only [evStep] at hr ⊢
    cases ha : f b s with
    | none => simp [ha] at hr
    | some q =>
      obtain ⟨ex, s1⟩ := q
      rw [h _ _ _ ha]
      rw [ha] at hr
      cases ex with
      | normal => exact h _ _ _ hr
      | exit i => exact hr
      | ret => exact hr
  | scope b => exact h _ _ _ hr
  | _ => exact hr

theorem ev_le_succ : ∀ n, SelfLe (ev C n) (ev C (n + 1)) := by
  intro n
  induction n with
  | zero => intro c s r hr; cases hr
  | succ n ih => exact evStep_mono ih

theorem ev_mono {n m : Nat} (hle : n ≤ m) : SelfLe (ev C n) (ev C m) := by
  induction hle with
  | refl => intro c s r hr; exact hr
  | step _ ih => intro c s r hr; exact ev_le_succ _ c s r (ih c s r hr)

theorem run_mono {n m k : Nat} (hle : n ≤ m) {args : List V} {h : H} {r : V × H} (hr : run C n k args h = some r) : run C m k args h = some r :=
  callF_mono (ev_mono hle) hr
end

end Go.Proofs.YtdllelamfamfcaaGreatDoor.Am
