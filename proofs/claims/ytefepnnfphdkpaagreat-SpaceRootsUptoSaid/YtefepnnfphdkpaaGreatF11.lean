/- SpaceRoots: a part of its proof; conditions: its statement's. -/
import Derived.Test.YtefepnnfphdkpaaGreatF10
import Derived.Scope
namespace Go.Proofs.YtefepnnfphdkpaaGreat.Am
open Go
section
variable {P:Program} {b:Frame} {a:Act} {k:List Item} {cs:List Frame} {w:World}
theorem oA {c:Code}: step P (lone (b.atR a (.code (.scope c)::k)) cs w)=.next (lone (b.atR a (.code c::.inScope c::k)) cs w) :=
 step_lone_go (by simp [stepG,stepG.exec,Frame.atR])
theorem Gq {c:Code}: step P (lone (b.atR a (.inScope c::k)) cs w)=.next (lone (b.atR a k) cs w) :=
 step_lone_go (by simp [stepG,stepG.exec,Frame.atR])
end
theorem LZ {P:Program}{r:Option Nat}{c:Code}{Q:Exit→Act→World→Prop}{a:Act}{w:World}(h:c.wpIn (Fr r) 0 P (Exit.noGoto Q) a w): (Code.scope c).wpIn (Fr r) 0 P Q a w:=by
 intro b k cs Hj hb hr
 obtain ⟨e,J,tX,hq,I⟩:=h b (.inScope c::k) cs Hj hb hr
 cases e with
 | normal=>exact ⟨.normal,J,tX,hq,.of_steps (.one (fenced_calm hb hr rfl) oA) (StepsIn.trans I (.one (fenced_calm hb hr rfl) Gq))⟩
 | exit id=>exact ⟨.exit id,J,tX,hq,.of_steps (.one (fenced_calm hb hr rfl) oA) ⟨fun k' hk=>I.1 k' (by simpa [exitTo] using hk),fun hr hk=>I.2 hr (by simpa [exitTo] using hk)⟩⟩
 | goto l=>exact hq.elim
 | ret=>exact ⟨_,J,tX,hq,.of_steps (.one (fenced_calm hb hr rfl) oA) I⟩
 | panic ch=>exact ⟨_,J,tX,hq,.of_steps (.one (fenced_calm hb hr rfl) oA) I⟩
 | outgrown=>exact ⟨_,J,tX,hq,.of_steps (.one (fenced_calm hb hr rfl) oA) I⟩
def CI (P:Program)(self:Self)(m:Nat): Prop:=∀(b:Code) (s:St) (ex:Ex) (s':St),self (.loop b) s=some (ex,s') →
 ∀(r:Option Nat) (c:Ctx) (a:Act) (w:World) (Q:Exit→Act→World→Prop),Rel c s.h w→dQ c s.env s.ay a →
  (∀e I w',(e=exOf ex∧I.defers=a.defers∧∃c',Rel c' s'.h w'∧dQ c' s'.env s'.ay I∧cV c w c' w')→Q e I w')→Code.roundsIn (Fr r) 0 P b Q m a w
section
variable {C:cL} {self:Self}
theorem By {m:Nat}(hS:iW C.P self)(hL:CI C.P self m): CI C.P (evStep C self) (m+1):=by
 intro b s ex s' I r c a w Q h he hQ
 rw [roundsIn_succ]
 unfold evStep at I
 simp only at I
 cases hb:self b s with
 | none=>rw [hb] at I; simp at I
 | some q =>
  obtain ⟨J,VT⟩:=q
  rw [hb] at I
  refine wpIn_mono (hS b s J VT hb r c a w h he) ?_
  rintro e Gn tX ⟨rfl,q2,c₁,q3,q4,q5⟩
  cases J with
  | normal =>
   simp only at I
   refine hL b VT ex s' I r c₁ Gn tX Q q3 q4 ?_
   rintro Ua Yk Yl ⟨p1,p2,c₂,p3,p4,p5⟩
   exact hQ _ _ _ ⟨p1,by rw [p2,q2],c₂,p3,p4,q5.trans p5⟩
  | exit i =>
   simp only [aq,aF] at I
   obtain ⟨rfl,rfl⟩:=I
   exact hQ _ _ _ ⟨rfl,q2,c₁,q3,q4,q5⟩
  | ret =>
   simp only [aq,aF] at I
   obtain ⟨rfl,rfl⟩:=I
   exact hQ _ _ _ ⟨rfl,q2,c₁,q3,q4,q5⟩
theorem NV {m:Nat}(hm:C.P.follows .mixedOrders=true)(hT:fy C)(hS:iW C.P self)(hL:CI C.P self m): iW C.P (evStep C self):=by
 intro code s ex s' I r c a w h he
 have same:∀ {ex:Ex} {s':St},(Ex.normal,s)=(ex,s')→exOf ex=.normal∧s'=s:=fun e=>by cases e; exact ⟨rfl,rfl⟩
 cases code with
 | skip =>
  simp only [evStep,aq,aF] at I
  obtain ⟨rfl,rfl⟩:=I
  exact wpIn_skip ⟨rfl,rfl,c,h,he,cV.refl c w⟩
 | label l =>
  simp only [evStep,aq,aF] at I
  obtain ⟨rfl,rfl⟩:=I
  exact wpIn_label ⟨rfl,rfl,c,h,he,cV.refl c w⟩
 | region id ops draw =>
  unfold evStep at I
  simp only at I
  cases draw with
  | true =>
   rw [ag] at I
   cases hd:lS C self ops.toList s with
   | none=>simp [hd] at I
   | some J =>
    simp only [hd,aq,aF] at I
    obtain ⟨rfl,rfl⟩:=I
    exact NU hS hT hm hd h he fun c' a' w' r1 r2 r3 r4=>⟨rfl,r4,c',r1,r2,r3⟩
  | false =>
   rw [az] at I
   cases hd:evOps C self ops.toList ops.toList s with
   | none=>simp [hd] at I
   | some J =>
    simp only [hd,aq,aF] at I
    obtain ⟨rfl,rfl⟩:=I
    refine wpIn_region ?_
    rw [DY,←Aw]
    exact QC hS hT ops.toList 0 s J c a w (fun j=>by rw [dH,jf]) hd h he fun c' a' w' r1 r2 r3 r4=>⟨rfl,r4,c',r1,r2,r3⟩
 | seq x y =>
  unfold evStep at I
  simp only at I
  cases hx:self x s with
  | none=>rw [hx] at I; simp at I
  | some r =>
   obtain ⟨CJ,J⟩:=r
   rw [hx] at I
   refine wpIn_seq (wpIn_mono (hS x s CJ J hx r c a w h he) ?_)
   rintro e Gn tX ⟨rfl,q2,c₁,q3,q4,q5⟩
   cases CJ with
   | normal =>
    simp only at I
    refine wpIn_mono (hS y J ex s' I r c₁ Gn tX q3 q4) ?_
    rintro e Yk Yl ⟨rfl,p2,c₂,p3,p4,p5⟩
    exact ⟨rfl,by rw [p2,q2],c₂,p3,p4,q5.trans p5⟩
   | exit i =>
    simp only [aq,aF] at I
    obtain ⟨rfl,rfl⟩:=I
    exact ⟨rfl,q2,c₁,q3,q4,q5⟩
   | ret =>
    simp only [aq,aF] at I
    obtain ⟨rfl,rfl⟩:=I
    exact ⟨rfl,q2,c₁,q3,q4,q5⟩
 | cond x y z =>
  unfold evStep at I
  simp only at I
  split at I
  ·rename_i t hx
   obtain ⟨e1,_⟩:=yA he hx
   refine wpIn_cond (t:=t) (by rw [e1]; rfl) ?_
   have:=hS (cond t y z) s ex s' I r c a w h he
   cases t <;> simpa using this
  ·cases I
 | block id b =>
  unfold evStep at I
  simp only at I
  cases hb:self b s with
  | none=>rw [hb] at I; simp at I
  | some r =>
   obtain ⟨CJ,J⟩:=r
   rw [hb] at I
   refine wpIn_block (wpIn_mono (hS b s CJ J hb r c a w h he) ?_)
   rintro e Gn tX ⟨rfl,q2,c₁,q3,q4,q5⟩
   cases CJ with
   | normal =>
    simp only [aq,aF] at I
    obtain ⟨rfl,rfl⟩:=I
    simp only [exOf,Exit.inBlock]
    exact ⟨aa,q2,c₁,q3,q4,q5⟩
   | exit i =>
    simp only at I
    by_cases hi:i=id
    ·rw [gP hi,ag] at I
     simp only [aq,aF] at I
     obtain ⟨rfl,rfl⟩:=I
     simp only [exOf,Exit.inBlock,hi,bO]
     exact ⟨aa,q2,c₁,q3,q4,q5⟩
    ·rw [dc hi,az] at I
     simp only [aq,aF] at I
     obtain ⟨rfl,rfl⟩:=I
     simp only [exOf,Exit.inBlock,hi,bN]
     exact ⟨aa,q2,c₁,q3,q4,q5⟩
   | ret =>
    simp only [aq,aF] at I
    obtain ⟨rfl,rfl⟩:=I
    simp only [exOf,Exit.inBlock]
    exact ⟨aa,q2,c₁,q3,q4,q5⟩
 | loop b =>
  exact wpIn_loop_rounds (m+1) (By hS hL b s ex s' I r c a w _ h he (fun _ _ _ hq=>hq))
 | exit id =>
  simp only [evStep,aq,aF] at I
  obtain ⟨rfl,rfl⟩:=I
  exact wpIn_exit ⟨rfl,rfl,c,h,he,cV.refl c w⟩
 | scope b =>
  unfold evStep at I
  simp only at I
  refine LZ (wpIn_mono (hS b s ex s' I r c a w h he) ?_)
  rintro e Gn tX ⟨rfl,q2,c₁,q3,q4,q5⟩
  cases ex <;> exact ⟨rfl,q2,c₁,q3,q4,q5⟩
 | ret =>
  simp only [evStep,aq,aF] at I
  obtain ⟨rfl,rfl⟩:=I
  exact wpIn_ret ⟨rfl,rfl,c,h,he,cV.refl c w⟩
 | _=>simp [evStep] at I
theorem CK (hm:C.P.follows .mixedOrders=true)(J:fy C): ∀n,iW C.P (ev C n)∧CI C.P (ev C n) n:=by
 intro n
 induction n with
 | zero=>exact ⟨fun _ _ _ _ h=>by simp [ev] at h,fun _ _ _ _ h=>by simp [ev] at h⟩
 | succ n I=>exact ⟨NV hm J I.1 I.2,By I.1 I.2⟩
theorem xk (hm:C.P.follows .mixedOrders=true)(I:fy C)(n:Nat): G6 C.P (ev C n)∧True:=⟨(CK hm I n).1.wide,aa⟩
theorem Hl (hm:C.P.follows .mixedOrders=true)(J:fy C){n:Nat}{f:FuncId}{args:List V}{h:H}{v:V}{h':H}(hr:run C n f args h=some (v,h')){c:Ctx}{w:World}
 (I:Rel c h w)(hw:∀x∈args,wf c x): gh C.P f args c w v h' :=
 (tV (xk hm J n).1 J hr I hw).1
theorem Rel.empty (w:World): Rel ⟨fun _=>(0,0),fun _=>0,0,fun _=>false⟩ ⟨0,.lf⟩ w :=
 ⟨rfl,fun id o h=>by simp [T.jX] at h,fun id h=>absurd h (Ee _),fun id h=>absurd h (Ee _),fun i j o o' h=>by simp [T.jX] at h,fun id o h=>by simp [T.jX] at h,fun id cs st h=>by simp [T.jX] at h,fun id o h=>by simp [T.jX] at h⟩
end
def leftC : Code→Code
 | .seq a _=>a
 | c=>c
def cN : Code→Code
 | .seq _ b=>b
 | c=>c

/- Heaps compared. -/
def noIter : Option Obj→Option Obj
 | some (.iter _ _ _ _)=>none
 | v=>v
def flatM {α β:Type}(f:α→Option (List β)): List α→Option (List β)
 | []=>some []
 | x::l=>match f x with
  | none=>none
  | some a=>match flatM f l with
   | none=>none
   | some b=>some (a++b)
theorem NX {α β:Type}{f:α→Option (List β)}: ∀(l:List α) (R:List β),flatM f l=some R→∀x∈l,∃r,f x=some r∧∀y∈r,y∈R:=by
 intro l
 induction l with
 | nil=>intro R _ x I; cases I
 | cons z l ih =>
  intro R h x I
  simp only [flatM] at h
  cases J:f z with
  | none=>simp [J] at h
  | some a =>
   cases hl:flatM f l with
   | none=>simp [J,hl] at h
   | some b =>
    simp only [J,hl,aq] at h
    subst h
    rcases List.mem_cons.1 I with rfl | I
    ·exact ⟨a,J,fun y hy=>List.mem_append_left _ hy⟩
    ·obtain ⟨r,h1,h2⟩:=ih b hl x I
     exact ⟨r,h1,fun y hy=>List.mem_append_right _ (h2 y hy)⟩
section
variable (C:cL) (self:Self)
noncomputable def opAll (env:Env)(h:H)(o:Oper): Option (List (V×H)):=match o.op with
 | .next it false=>match evO env it with
  | some (.ptr r off)=>cond (Nat.beq off 0) (nextAll h r) none
  | _=>none
 | _=>match evOp C self env h o with
  | some q=>some [q]
  | none=>none
noncomputable def opsAll (ops:List Oper): List Oper→St→Option (List St)
 | [],s=>some [s]
 | o::l,s=>cond (wantedV ops s.env o)
  (match opAll C self s.env s.h o with
   | some I=>flatM (fun q=>match s.put o.dst q.1 q.2 with
    | some s'=>opsAll ops l s'
    | none=>none) I
   | none=>none)
  (match s.put o.dst bV s.h with
   | some s'=>opsAll ops l s'
   | none=>none)
end
section
variable {C:cL} {self:Self}
theorem QK (hS:iW C.P self)(hT:fy C){c:Ctx}{σ:H}{w:World}{env:Env}{a:Act}{o:Oper}{qs:List (V×H)}(h:Rel c σ w)(he:AJ c env a o)(I:opAll C self env σ o=some qs):
  (∃q∈qs,xb C.P o a c w q.1 q.2)∧∀d,o.op≠.defer d:=by
 unfold opAll at I
 split at I
 ·rename_i it ho
  refine ⟨?_,fun d hd=>by rw [ho] at hd; cases hd⟩
  split at I
  ·rename_i r off hx
   cases hq:Nat.beq off 0 with
   | false=>rw [hq] at I; cases I
   | true =>
    rw [hq,ag] at I
    have:=beq_iff.1 hq
    subst this
    obtain ⟨f1,f2⟩:=he it (by simp [ho,Op.operands]) _ hx
    obtain ⟨q,CL,hg⟩:=Bx (P:=C.P) h I o.type
    exact ⟨q,CL,e_ (s:=Instr.next (conc c (.ptr r 0)) false o.type) (by simp only [execOp,ho,f1]) hg⟩
  ·cases I
 ·cases J:evOp C self env σ o with
  | none=>rw [J] at I; cases I
  | some q =>
   rw [J] at I
   simp only [aq] at I
   subst I
   obtain ⟨v,eS⟩:=q
   exact ⟨⟨(v,eS),List.mem_singleton.2 rfl,wm hS hT h he J⟩,lV J⟩
theorem NY (hS:iW C.P self)(hT:fy C){ops:Array Oper}{Q:Exit→Act→World→Prop}: ∀(l:List Oper) (k:Nat) (s:St) (L:List St) (c:Ctx) (a:Act) (w:World),
  (∀j,l[j]?=ops[k+j]?)→opsAll C self ops.toList l s=some L→Rel c s.h w→dQ c s.env s.ay a →
  (∀s'∈L,∀c' a' w',Rel c' s'.h w'→dQ c' s'.env s'.ay a'→cV c w c' w'→a'.defers=a.defers→Q .normal a' w') →
  wpOpsIn (Fr none) 0 C.P ops Q (List.range' k l.length) a w:=by
 intro l
 induction l with
 | nil =>
  intro k s L c a w _ I h he hQ
  simp only [opsAll,aq] at I
  subst I
  simp only [bT,D_,wpOpsIn]
  exact hQ s (List.mem_singleton.2 rfl) c a w h he (cV.refl c w) rfl
 | cons o l ih =>
  intro k s L c a w hl I h he hQ
  have h0:ops[k]?=some o:=by simpa using (hl 0).symm
  have rS:∀j,l[j]?=ops[k+1+j]?:=fun j=>by have:=hl (j+1); simpa [gx,tc 1 j] using this
  simp only [aS,Ay,wpOpsIn,h0]
  rw [xj he]
  simp only [opsAll] at I
  cases hw:wantedV ops.toList s.env o with
  | true =>
   rw [hw,ag] at I
   simp only [bO]
   cases ho:opAll C self s.env s.h o with
   | none=>simp [ho] at I
   | some qs =>
    simp only [ho] at I
    obtain ⟨⟨q,hq,Bz⟩,ni⟩:=QK hS hT h (he.G7 o) ho
    obtain ⟨r,lW,NZ⟩:=NX qs L I q hq
    refine Bz.wpIn ni ?_
    intro c' w' r1 r2 r3
    cases hp:s.put o.dst q.1 q.2 with
    | none=>simp [hp] at lW
    | some J =>
     simp only [hp] at lW
     obtain ⟨p1,p2,p3⟩:=St.we (he.ext r2.ext) r3 hp
     refine ih (k+1) J r c' _ w' rS lW (by rw [p2]; exact r1) p1 ?_
     intro s' Fj mM rT tZ q1 q2 q3 q4
     exact hQ s' (NZ s' Fj) mM rT tZ q1 q2 (r2.trans q3) (by rw [q4]; cases o.dst <;> rfl)
  | false =>
   rw [hw,az] at I
   simp only [dY,bN]
   refine ⟨fun _ _=>trivial,?_⟩
   cases hp:s.put o.dst bV s.h with
   | none=>simp [hp] at I
   | some J =>
    simp only [hp] at I
    obtain ⟨p1,p2,p3⟩:=St.we he (show wf c bV by simp [bV,wf,fu]) hp
    rw [nV] at p1
    refine ih (k+1) J L c _ w rS I (by rw [p2]; exact h) p1 ?_
    intro s' Fj mM rT tZ q1 q2 q3 q4
    exact hQ s' Fj mM rT tZ q1 q2 q3 (by rw [q4]; cases o.dst <;> rfl)
end
theorem Rel.Ys {c:Ctx}{σ I:H}{w:World}(h:Rel c σ w)(J:I.next=σ.next)(hs:∀id o,T.get I.tr id=some o→T.get σ.tr id=some o): Rel c I w :=
 ⟨J.trans h.next,fun id o ho=>h.live id o (hs id o ho),h.lF,h.zz,fun i j o o' hi hj he=>h.inj i j o o' (hs i o hi) (hs j o' hj) he,
  fun id o ho=>h.obj id o (hs id o ho),fun id cs st ho=>h.one id cs st (hs id _ ho),fun id o ho=>h.fx id o (hs id o ho)⟩
def mN (f g:Self): Prop:=∀c s r,f c s=some r→g c s=some r
section
variable {C:cL} {f g:Self}
theorem pZ (h : mN f g) {k : Nat} {args : List V} {σ : H} {r : V × H} (I : callF C f k args σ = some r) : callF C g k args σ = some r := by
 unfold callF at I ⊢
 cases J : C.told k with
 | some t => simp only [J] at I ⊢; exact I
 | none =>
  simp only [J] at I ⊢
  cases hf : C.P.funcs[k]? with
  | none => simp [hf] at I
  | some fn =>
   simp only [hf] at I ⊢
   cases hb : fn.body with
   | none => simp [hb] at I
   | some c =>
    simp only [hb] at I ⊢
    cases hq : (fn.name == "runtime.NumGoroutine" || Nat.blt fn.ntmps args.length) with
    | true => simp [hq] at I
    | false =>
     simp only [hq, az] at I ⊢
     cases hs : f c ⟨bindArgs args 0 .lf, fn.ntmps, σ⟩ with
     | none => simp [hs] at I
     | some q => rw [h _ _ _ hs]; rw [hs] at I; exact I
theorem Jv (h:mN f g){id:Nat}{args:List V}{σ:H}{r:V×H}(I:roundV f id args σ=some r): roundV g id args σ=some r:=by
 unfold roundV at I ⊢
 cases ho:σ.tr.get id with
 | none=>simp [ho] at I
 | some o =>
  simp only [ho] at I ⊢
  cases o with
  | loop busy ay env ps as bd =>
   cases busy with
   | true=>cases I
   | false =>
    simp only at I ⊢
    cases he:bindPs ay ps args env with
    | none=>simp [he] at I
    | some e =>
     simp only [he] at I ⊢
     cases h1:f as ⟨e,ay,σ⟩ with
     | none=>simp [h1] at I
     | some q =>
      rw [h as _ _ h1]
      simp only [h1] at I
      split at I
      ·rename_i VT hq
       simp only [aq] at hq
       subst hq
       split at I
       ·rename_i VA aae VB VC VD acA
        split at I
        ·rename_i Lu J
         rw [h bd _ _ J]
         exact I
        ·first
          | (cases I; done)
          | (rename_i J; cases I)
       ·cases I
      ·cases I
  | _=>cases I
theorem my (h:mN f g){env:Env}{σ:H}{o:Oper}{r:V×H}(I:evOp C f env σ o=some r): evOp C g env σ o=some r:=by
 unfold evOp at I ⊢
 cases Bz:o.op <;> simp only [Bz] at I ⊢ <;> try exact I
 rename_i cl
 unfold evCall at I ⊢
 cases ha:evArgs env cl.args.toList with
 | none=>simp [ha] at I
 | some args =>
  simp only [ha] at I ⊢
  cases hc:cl.callee with
  | builtin b=>simp only [hc] at I ⊢; exact I
  | value x =>
   simp only [hc] at I ⊢
   cases J:evO env x with
   | none=>simp [J] at I
   | some fv =>
    simp only [J] at I ⊢
    unfold callV at I ⊢
    split at I
    ·rename_i k first captured
     cases hb:kM C.P k with
     | true =>
      rw [hb,ag] at I
      simp only [hb,ag]
      exact pZ h I
     | false =>
      rw [hb,az] at I
      simp only [hb,az]
      exact I
    ·exact Jv h I
    ·cases I
  | invoke x m =>
   simp only [hc] at I ⊢
   split at I
   ·rename_i t v J
    try simp only [J]
    cases hm:methV C.P t m with
    | none=>simp [hm] at I
    | some k=>simp only [hm] at I ⊢; exact pZ h I
   ·cases I
theorem p_ (h:mN f g){L:List Oper}: ∀(l:List Oper) (s s':St),evOps C f L l s=some s'→evOps C g L l s=some s':=by
 intro l
 induction l with
 | nil=>intro s s' I; exact I
 | cons o l ih =>
  intro s s' I
  simp only [evOps] at I ⊢
  cases hw:wantedV L s.env o with
  | true =>
   simp only [hw,ag] at I ⊢
   cases ho:evOp C f s.env s.h o with
   | none=>simp [ho] at I
   | some q =>
    obtain ⟨v,h1⟩:=q
    rw [my h ho]
    simp only [ho] at I ⊢
    cases J:s.put o.dst v h1 with
    | none=>simp [J] at I
    | some s1=>simp only [J] at I ⊢; exact ih _ _ I
  | false =>
   simp only [hw,az] at I ⊢
   cases J:s.put o.dst bV s.h with
   | none=>simp [J] at I
   | some s1=>simp only [J] at I ⊢; exact ih _ _ I
theorem xm (h:mN f g){L:List Oper}: ∀(l:List Oper) (s:St) (hs:List H) (r:List (Env×V)×List H×St),trace C f L l s hs=some r→trace C g L l s hs=some r:=by
 intro l
 induction l with
 | nil=>intro s hs r I; exact I
 | cons o l ih =>
  intro s hs r I
  simp only [trace] at I ⊢
  have key:∀q,cond (wantedV L s.env o) (evOp C f s.env s.h o) (some (bV,s.h))=some q→cond (wantedV L s.env o) (evOp C g s.env s.h o) (some (bV,s.h))=some q:=by
   intro q J
   cases hw:wantedV L s.env o with
   | true=>simp only [hw,ag] at J ⊢; exact my h J
   | false=>simp only [hw,az] at J ⊢; exact J
  cases hc:cond (wantedV L s.env o) (evOp C f s.env s.h o) (some (bV,s.h)) with
  | none=>simp [hc] at I
  | some q =>
   obtain ⟨v,h1⟩:=q
   rw [key _ hc]
   simp only [hc] at I ⊢
   cases hp:s.put o.dst v h1 with
   | none=>simp [hp] at I
   | some s1 =>
    simp only [hp] at I ⊢
    cases ht:trace C f L l s1 (cond (isEff C o.op) (hs++[h1]) hs) with
    | none=>simp [ht] at I
    | some z=>rw [ih _ _ _ ht]; rw [ht] at I; exact I
theorem Jw (h:mN f g){L:List Oper}{o:Oper}{x:Env×V}: ∀(l:List H),sameIn C f L o x l=true→sameIn C g L o x l=true:=by
 intro l
 induction l with
 | nil=>intro I; exact I
 | cons y l ih =>
  intro I
  simp only [sameIn] at I ⊢
  cases hw:wantedV L x.1 o with
  | false=>simp
  | true =>
   simp only [hw,ag] at I ⊢
   cases ho:evOp C f x.1 y o with
   | none=>simp [ho] at I
   | some q =>
    rw [my h ho]
    simp only [ho] at I ⊢
    cases J:q.1.beq x.2 with
    | false=>simp only [J] at I; cases I
    | true=>simp only [J,ag] at I ⊢; exact ih I
theorem Jx (h:mN f g){L:List Oper}{as es:List Nat}{hs:List H}: ∀(l:List Oper) (tr:List (Env×V)) (i:Nat),stayOk C f L as es hs l tr i=true→stayOk C g L as es hs l tr i=true:=by
 intro l
 induction l with
 | nil=>intro tr i I; cases tr <;> exact I
 | cons o l ih =>
  intro tr i I
  cases tr with
  | nil=>exact I
  | cons x tr =>
   simp only [stayOk] at I ⊢
   cases he:isEff C o.op with
   | true=>simp only [he,ag] at I ⊢; exact ih _ _ I
   | false =>
    simp only [he,az] at I ⊢
    cases h1:(kQ ((nth as i).getD 0) es&&Nat.beq (ij ((nth as i).getD 0) es) (j5 as i es)) with
    | true=>simp only [h1,ag] at I ⊢; exact ih _ _ I
    | false =>
     simp only [h1,az] at I ⊢
     cases J:(kQ ((nth as i).getD 0) es&&sameIn C f L o x ((hs.drop (ij ((nth as i).getD 0) es)).take (j5 as i es+1-ij ((nth as i).getD 0) es))) with
     | false=>rw [J] at I; cases I
     | true =>
      rw [J,ag] at I
      rw [aO] at J
      rw [J.1,Jw h _ J.2]
      exact ih _ _ I
theorem Jy (h:mN f g){L:List Oper}{s s':St}(I:lS C f L s=some s'): lS C g L s=some s':=by
 unfold lS at I ⊢
 cases J:trace C f L L s [s.h] with
 | none=>simp [J] at I
 | some q =>
  rw [xm h _ _ _ _ J]
  simp only [J] at I ⊢
  cases hq:stayOk C f L (ancs L []) (dA C L 0) q.2.1 L q.1 0 with
  | false=>rw [hq] at I; cases I
  | true=>rw [Jx h _ _ _ hq]; rw [hq] at I; exact I
theorem Jz (h:mN f g): mN (evStep C f) (evStep C g):=by
 intro c s r I
 cases c with
 | region id ops draw =>
  simp only [evStep] at I ⊢
  cases draw with
  | true =>
   simp only [ag] at I ⊢
   cases hd:lS C f ops.toList s with
   | none=>simp [hd] at I
   | some s1=>rw [Jy h hd]; rw [hd] at I; exact I
  | false =>
   simp only [az] at I ⊢
   cases hd:evOps C f ops.toList ops.toList s with
   | none=>simp [hd] at I
   | some s1=>rw [p_ h _ _ _ hd]; rw [hd] at I; exact I
 | seq a b =>
  simp only [evStep] at I ⊢
  cases J:f a s with
  | none=>simp [J] at I
  | some q =>
   obtain ⟨ex,s1⟩:=q
   rw [h _ _ _ J]
   rw [J] at I
   cases ex with
   | normal=>exact h _ _ _ I
   | exit i=>exact I
   | ret=>exact I
 | cond x a b =>
  simp only [evStep] at I ⊢
  split at I
  ·exact h _ _ _ I
  ·cases I
 | block id b =>
  simp only [evStep] at I ⊢
  cases J:f b s with
  | none=>simp [J] at I
  | some q=>rw [h _ _ _ J]; rw [J] at I; exact I
 | loop b =>
  simp only [evStep] at I ⊢
  cases J:f b s with
  | none=>simp [J] at I
  | some q =>
   obtain ⟨ex,s1⟩:=q
   rw [h _ _ _ J]
   rw [J] at I
   cases ex with
   | normal=>exact h _ _ _ I
   | exit i=>exact I
   | ret=>exact I
 | scope b=>exact h _ _ _ I
 | _=>exact I
theorem L0 : ∀n,mN (ev C n) (ev C (n+1)):=by
 intro n
 induction n with
 | zero=>intro c s r I; cases I
 | succ n J=>exact Jz J
theorem fA {n m:Nat}(hle:n≤m): mN (ev C n) (ev C m):=by
 induction hle with
 | refl=>intro c s r I; exact I
 | step _ J=>intro c s r I; exact L0 _ c s r (J c s r I)
end
def look : List (Nat×V)→Nat→Option V
 | [],_=>none
 | x::E,k=>cond (Nat.beq x.1 k) (some x.2) (look E k)
def jB (env:Env)(E:List (Nat×V)): Prop:=∀t v,look E t=some v→T.get env t=some v
theorem jB.set {env:Env}{E:List (Nat×V)}(h:jB env E)(d:Nat)(v:V): jB (env.set d (some v)) ((d,v)::E):=by
 intro t u I
 simp only [look] at I
 rw [aX]
 by_cases J:d=t
 ·subst J
  rw [gP rfl,ag] at I
  simpa using I
 ·rw [dc J,az] at I
  rw [ah (fun e=>J e.symm)]
  exact h t u I
theorem jB.sub {env:Env}{E E':List (Nat×V)}(h:jB env E)(hs:∀t v,look E' t=some v→look E t=some v): jB env E':=fun t v I=>h t v (hs t v I)
def lookO (E:List (Nat×V)): Operand→Option V
 | .tmp t=>look E t
 | .const c=>ofValue c
 | .global _=>none
 | .func f=>some (.fn (.func f) [] [])
theorem bP {env:Env}{E:List (Nat×V)}(h:jB env E){x:Operand}{v:V}(I:lookO E x=some v): evO env x=some v:=by
 cases x with
 | tmp t=>simp only [lookO] at I; simp only [evO,Env.v,h t v I]
 | const c=>exact I
 | global g=>cases I
 | func f=>exact I
def lookArgs (E:List (Nat×V)): List Operand→Option (List V)
 | []=>some []
 | x::l=>match lookO E x with
  | none=>none
  | some v=>match lookArgs E l with
   | none=>none
   | some m=>some (v::m)
theorem mZ {env:Env}{E:List (Nat×V)}(h:jB env E): ∀ {l:List Operand} {m:List V},lookArgs E l=some m→evArgs env l=some m:=by
 intro l
 induction l with
 | nil=>intro m hm; exact hm
 | cons x l ih =>
  intro m hm
  simp only [lookArgs] at hm
  cases I:lookO E x with
  | none=>simp [I] at hm
  | some v =>
   cases J:lookArgs E l with
   | none=>simp [I,J] at hm
   | some k=>simp only [I,J] at hm; simp only [evArgs,bP h I,ih J]; exact hm
def lookParts (E:List (Nat×V)): List (Nat×Operand)→Option (List (Nat×V))
 | []=>some []
 | x::l=>match lookO E x.2 with
  | none=>none
  | some v=>match lookParts E l with
   | none=>none
   | some m=>some ((x.1,v)::m)
theorem yN {env:Env}{E:List (Nat×V)}(h:jB env E): ∀ {l:List (Nat×Operand)} {m:List (Nat×V)},lookParts E l=some m→evParts env l=some m:=by
 intro l
 induction l with
 | nil=>intro m hm; exact hm
 | cons x l ih =>
  intro m hm
  obtain ⟨i,x⟩:=x
  simp only [lookParts] at hm
  cases I:lookO E x with
  | none=>simp [I] at hm
  | some v =>
   cases J:lookParts E l with
   | none=>simp [I,J] at hm
   | some k=>simp only [I,J] at hm; simp only [evParts,bP h I,ih J]; exact hm
def lookOpt (E:List (Nat×V)): Option Operand→Option (Option V)
 | none=>some none
 | some x=>match lookO E x with
  | some v=>some (some v)
  | none=>none
theorem xn {env:Env}{E:List (Nat×V)}(h:jB env E){x:Option Operand}{v:Option V}(I:lookOpt E x=some v): optV env x=some v:=by
 cases x with
 | none=>exact I
 | some x =>
  simp only [lookOpt] at I
  cases J:lookO E x with
  | none=>simp [J] at I
  | some u=>simp only [J] at I; simp only [optV,bP h J]; exact I
section
variable (P:Program)
def jQ (E:List (Nat×V))(x:Operand)(g:V→Option (V×H)): Option (V×H):=match lookO E x with
 | some v=>g v
 | none=>none
def u6 (E:List (Nat×V))(x y:Operand)(g:V→V→Option (V×H)): Option (V×H):=match lookO E x with
 | some v=>match lookO E y with
  | some u=>g v u
  | none=>none
 | none=>none
noncomputable def opE (E:List (Nat×V))(h:H)(o:Op): Option (V×H):=match o with
 | .move x | .assign x=>jQ E x fun v=>some (v,h)
 | .pick c a b=>jQ E c fun v=>match v with
  | .bool t=>jQ E (cond t a b) fun v=>some (v,h)
  | _=>none
 | .alloc t=>match zeroT P t with
  | some z=>some (.ptr h.next 0,newRow h z.cells)
  | none=>none
 | .box _ x=>jQ E x fun v=>cond (v.cells.all storable) (some (.ptr h.next 0,newRow h v.cells)) none
 | .build t ps=>match lookParts E ps.toList with
  | some l=>aY (buildV P t l) h
  | none=>none
 | .buildSlice t n ps=>match lookParts E ps.toList with
  | some l=>buildSliceV P h t n l
  | none=>none
 | .load t a=>jQ E a fun v=>aY (loadV P h t v) h
 | .store t a x=>u6 E a x fun p v=>nh (g9 P h t p v)
 | .nilCheck x=>jQ E x fun v=>match v with
  | .ptr a b=>some (.ptr a b,h)
  | _=>none
 | .binOp op t x y _=>u6 E x y fun a b=>aY (binV P h op t x y a b) h
 | .unOp op _ x=>jQ E x fun a=>aY (unV op a) h
 | .convert s d x=>jQ E x fun a=>match convV P h s d a with
   | some r=>some r
   | none=>convB P h s d a
 | .sliceToArrayPointer d x=>jQ E x fun a=>aY (arrPtrV P d a) h
 | .makeInterface t x=>jQ E x fun a=>aY (makeIfaceV P t a) h
 | .makeFunc f a b=>match lookArgs E a.toList with
  | some x=>match lookArgs E b.toList with
   | some y=>some (.fn f x y,h)
   | none=>none
  | none=>none
 | .makeMap _ r=>match r with
  | none=>some (.map h.next,h.new (.map [] 0))
  | some _=>none
 | .makeSlice t l c=>u6 E l c fun a b=>makeSliceV P h t a b
 | .slice t x lo hi mx=>jQ E x fun v=>match lookOpt E lo with
  | some a=>match lookOpt E hi with
   | some b=>match lookOpt E mx with
    | some c=>match gI a with
     | some a=>match gI b with
      | some b=>match gI c with
       | some c=>aY (sliceV P h t v a b c) h
       | none=>none
      | none=>none
     | none=>none
    | none=>none
   | none=>none
  | none=>none
 | .fieldAddr t x i=>jQ E x fun v=>aY (fieldAddrV P t v i) h
 | .field t x i=>jQ E x fun v=>aY (pQ P t v i) h
 | .indexAddr t x i=>u6 E x i fun v j=>aY (indexAddrV P t v j) h
 | .index t x i=>u6 E x i fun v j=>aY (indexV P t v j) h
 | .lookup t x k ok=>u6 E x k fun m j=>aY (eV P h t m j ok) h
 | .extract t i=>jQ E t fun v=>match v with
  | .bj l=>aY (nth l i) h
  | _=>none
 | .typeAssert x _ a ok=>jQ E x fun v=>aY (assertV P v a ok) h
 | .call c=>match c.callee with
  | .builtin b=>match lookArgs E c.args.toList with
   | some args=>builtinV P h b c.argTypes args
   | none=>none
  | _=>none
 | _=>none
end
theorem iX {E:List (Nat×V)}{x:Operand}{g:V→Option (V×H)}{r:V×H}(h:jQ E x g=some r): ∃v,lookO E x=some v∧g v=some r:=by
 unfold jQ at h
 cases I:lookO E x with
 | none=>simp [I] at h
 | some v=>simp only [I] at h; exact ⟨v,rfl,h⟩
theorem tw {E:List (Nat×V)}{x y:Operand}{g:V→V→Option (V×H)}{r:V×H}(h:u6 E x y g=some r): ∃v u,lookO E x=some v∧lookO E y=some u∧g v u=some r:=by
 unfold u6 at h
 cases I:lookO E x with
 | none=>simp [I] at h
 | some v =>
  cases J:lookO E y with
  | none=>simp [I,J] at h
  | some u=>simp only [I,J] at h; exact ⟨v,u,rfl,rfl,h⟩
set_option maxHeartbeats 1000000 in
theorem CM {C:cL}{self:Self}{env:Env}{E:List (Nat×V)}{h:H}{o:Oper}{r:V×H}(hE:jB env E)(hr:opE C.P E h o.op=some r): evOp C self env h o=some r:=by
 unfold opE at hr
 unfold evOp
 split at hr
 ·rename_i x I; obtain ⟨v,h1,J⟩:=iX hr; simp only [I,bP hE h1,aY]; exact J
 ·rename_i x I; obtain ⟨v,h1,J⟩:=iX hr; simp only [I,bP hE h1,aY]; exact J
 ·rename_i c a b I
  obtain ⟨v,h1,J⟩:=iX hr
  split at J
  ·rename_i t
   obtain ⟨u,h3,h4⟩:=iX J
   simp only [I,bP hE h1,bP hE h3,aY]; exact h4
  ·cases J
 ·rename_i t I; simp only [I]; exact hr
 ·rename_i t x I; obtain ⟨v,h1,J⟩:=iX hr; simp only [I,bP hE h1]; exact J
 ·rename_i t ps I
  cases hp:lookParts E ps.toList with
  | none=>simp [hp] at hr
  | some l=>simp only [hp] at hr; simp only [I,yN hE hp]; exact hr
 ·rename_i t n ps I
  cases hp:lookParts E ps.toList with
  | none=>simp [hp] at hr
  | some l=>simp only [hp] at hr; simp only [I,yN hE hp]; exact hr
 ·rename_i t a I; obtain ⟨v,h1,J⟩:=iX hr; simp only [I,bP hE h1]; exact J
 ·rename_i t a x I; obtain ⟨v,u,h1,J,h3⟩:=tw hr; simp only [I,bP hE h1,bP hE J]; exact h3
 ·rename_i x I
  obtain ⟨v,h1,J⟩:=iX hr
  split at J
  ·simp only [I,bP hE h1]; exact J
  ·cases J
 ·rename_i op t x y u I; obtain ⟨v,u,h1,J,h3⟩:=tw hr; simp only [I,bP hE h1,bP hE J]; exact h3
 ·rename_i op t x I; obtain ⟨v,h1,J⟩:=iX hr; simp only [I,bP hE h1]; exact J
 ·rename_i s d x I; obtain ⟨v,h1,J⟩:=iX hr; simp only [I,bP hE h1]; exact J
 ·rename_i d x I; obtain ⟨v,h1,J⟩:=iX hr; simp only [I,bP hE h1]; exact J
 ·rename_i t x I; obtain ⟨v,h1,J⟩:=iX hr; simp only [I,bP hE h1]; exact J
 ·rename_i f a b I
  cases ha:lookArgs E a.toList with
  | none=>simp [ha] at hr
  | some x =>
   cases hb:lookArgs E b.toList with
   | none=>simp [ha,hb] at hr
   | some y=>simp only [ha,hb] at hr; simp only [I,mZ hE ha,mZ hE hb]; exact hr
 ·rename_i t r I
  simp only [I]
  exact hr
 ·rename_i t l c I; obtain ⟨v,u,h1,J,h3⟩:=tw hr; simp only [I,bP hE h1,bP hE J]; exact h3
 ·rename_i t x lo hi mx I
  obtain ⟨v,h1,J⟩:=iX hr
  cases ha:lookOpt E lo with
  | none=>simp [ha] at J
  | some a =>
   cases hb:lookOpt E hi with
   | none=>simp [ha,hb] at J
   | some b =>
    cases hc:lookOpt E mx with
    | none=>simp [ha,hb,hc] at J
    | some c =>
     simp only [ha,hb,hc] at J
     simp only [I,bP hE h1,xn hE ha,xn hE hb,xn hE hc]
     cases pa:gI a with
     | none=>simp [pa] at J
     | some a =>
      cases pb:gI b with
      | none=>simp [pa,pb] at J
      | some b =>
       cases pc:gI c with
       | none=>simp [pa,pb,pc] at J
       | some c=>simp only [pa,pb,pc] at J ⊢; exact J
 ·rename_i t x i I; obtain ⟨v,h1,J⟩:=iX hr; simp only [I,bP hE h1]; exact J
 ·rename_i t x i I; obtain ⟨v,h1,J⟩:=iX hr; simp only [I,bP hE h1]; exact J
 ·rename_i t x i I; obtain ⟨v,u,h1,J,h3⟩:=tw hr; simp only [I,bP hE h1,bP hE J]; exact h3
 ·rename_i t x i I; obtain ⟨v,u,h1,J,h3⟩:=tw hr; simp only [I,bP hE h1,bP hE J]; exact h3
 ·rename_i t x k ok I; obtain ⟨v,u,h1,J,h3⟩:=tw hr; simp only [I,bP hE h1,bP hE J]; exact h3
 ·rename_i t i I
  obtain ⟨v,h1,J⟩:=iX hr
  split at J
  ·simp only [I,bP hE h1]; exact J
  ·cases J
 ·rename_i x t a ok I; obtain ⟨v,h1,J⟩:=iX hr; simp only [I,bP hE h1]; exact J
 ·rename_i cl I
  split at hr
  ·rename_i b hc
   cases ha:lookArgs E cl.args.toList with
   | none=>simp [ha] at hr
   | some args=>simp only [ha] at hr; simp only [I,evCall,hc,mZ hE ha]; exact hr
  ·cases hr
 ·cases hr
def hG (C:cL)(f:FuncId)(args:List V)(h:H)(v:V)(h':H): Prop:=∃N,callF C (ev C N) f args h=some (v,h')
def Call (C:cL)(f:FuncId)(args:List V)(h:H)(R:V→H→Prop): Prop:=∃v h',hG C f args h v h'∧R v h'
theorem Call.mono {C:cL}{f:FuncId}{args:List V}{h:H}{R I:V→H→Prop}(J:Call C f args h R)(hr:∀v h',R v h'→I v h'): Call C f args h I:=by
 obtain ⟨v,h',h1,h2⟩:=J
 exact ⟨v,h',h1,hr v h' h2⟩
theorem hG.told {C:cL}{f:FuncId}{fn:Func}{g:List V→H→Option (V×H)}{args:List V}{h:H}{v:V}{h':H}(I:C.told f=some g)(J:C.P.funcs[f]?=some fn)(hb:fn.body.isSome=true)(hr:g args h=some (v,h')): hG C f args h v h':=by
 refine ⟨0,?_⟩
 unfold callF
 have:kM C.P f=true:=by unfold kM; simp only [J]; exact hb
 simp only [I,this,ag]
 exact hr
theorem hG.body {C:cL}{f:FuncId}{args:List V}{h:H}{v:V}{h':H}(hd:hG C f args h v h'): kM C.P f=true:=by
 obtain ⟨N,I⟩:=hd
 unfold callF at I
 cases ht:C.told f with
 | some g =>
  simp only [ht] at I
  cases J:kM C.P f with
  | true=>rfl
  | false=>rw [J] at I; cases I
 | none =>
  simp only [ht] at I
  unfold kM
  cases hf:C.P.funcs[f]? with
  | none=>simp [hf] at I
  | some fn =>
   simp only [hf] at I ⊢
   cases J:fn.body with
   | none=>simp [J] at I
   | some c=>rfl
theorem jj (C:cL)(n:Nat)(c:Code)(s:St): ev C (n+1) c s=evStep C (ev C n) c s:=rfl
def WP (C:cL)(ay:Nat)(code:Code)(E:List (Nat×V))(h:H)(Q:Ex→List (Nat×V)→H→Prop): Prop :=
 ∀env,jB env E→∃N ex I h' E',ev C N code ⟨env,ay,h⟩=some (ex,⟨I,ay,h'⟩)∧jB I E'∧Q ex E' h'
def aA (C:cL)(ay:Nat)(L l:List Oper)(E:List (Nat×V))(h:H)(Q:List (Nat×V)→H→Prop): Prop :=
 ∀env,jB env E→∃N I h' E',evOps C (ev C N) L l ⟨env,ay,h⟩=some ⟨I,ay,h'⟩∧jB I E'∧Q E' h'
section
variable {C:cL} {ay:Nat} {E:List (Nat×V)} {h:H} {Q:Ex→List (Nat×V)→H→Prop} {R:List (Nat×V)→H→Prop} {L l:List Oper}
theorem WP.sub {code:Code}{I:List (Nat×V)}(hs:∀t v,look I t=some v→look E t=some v)(hw:WP C ay code I h Q): WP C ay code E h Q:=fun env J=>hw env (J.sub hs)
theorem WP.skip (I:Q .normal E h): WP C ay .skip E h Q:=fun env J=>⟨1,.normal,env,h,E,rfl,J,I⟩
theorem WP.ret (I:Q .ret E h): WP C ay .ret E h Q:=fun env J=>⟨1,.ret,env,h,E,rfl,J,I⟩
theorem WP.exit {i:Nat}(I:Q (.exit i) E h): WP C ay (.exit i) E h Q:=fun env J=>⟨1,.exit i,env,h,E,rfl,J,I⟩
theorem WP.region {id:Nat}{ops:Array Oper}(J:ops.toList=l)(hw:aA C ay l l E h fun E' h'=>Q .normal E' h'): WP C ay (.region id ops false) E h Q:=by
 intro env hE
 obtain ⟨N,I,h',E',h1,h2,h3⟩:=hw env hE
 refine ⟨N+1,.normal,I,h',E',?_,h2,h3⟩
 subst J
 rw [jj]
 simp only [evStep,az,h1]
theorem WP.seq {a b:Code}(hw:WP C ay a E h fun ex E' h'=>match ex with
  | .normal=>WP C ay b E' h' Q
  | ex=>Q ex E' h'): WP C ay (.seq a b) E h Q:=by
 intro env hE
 obtain ⟨N,ex,I,h',E',h1,h2,h3⟩:=hw env hE
 cases ex with
 | normal =>
  obtain ⟨M,og,J,N4,E2,g1,g2,g3⟩:=h3 I h2
  refine ⟨Nat.max N M+1,og,J,N4,E2,?_,g2,g3⟩
  rw [jj]
  simp only [evStep,fA (o5 N M) _ _ _ h1]
  exact fA (oZ N M) _ _ _ g1
 | exit i =>
  refine ⟨N+1,.exit i,I,h',E',?_,h2,h3⟩
  rw [jj]
  simp only [evStep,h1]
 | ret =>
  refine ⟨N+1,.ret,I,h',E',?_,h2,h3⟩
  rw [jj]
  simp only [evStep,h1]
theorem WP.cond {x:Operand}{a b:Code}{t:Bool}(hx:lookO E x=some (.bool t))(hw:WP C ay (_root_.cond t a b) E h Q): WP C ay (.cond x a b) E h Q:=by
 intro env J
 obtain ⟨N,ex,I,h',E',h1,h2,h3⟩:=hw env J
 refine ⟨N+1,ex,I,h',E',?_,h2,h3⟩
 rw [jj]
 simp only [evStep,bP J hx]
 exact h1
theorem WP.block {i:Nat}{b:Code}(hw:WP C ay b E h fun ex E' h'=>match ex with
  | .exit j=>_root_.cond (Nat.beq j i) (Q .normal E' h') (Q (.exit j) E' h')
  | ex=>Q ex E' h'): WP C ay (.block i b) E h Q:=by
 intro env hE
 obtain ⟨N,ex,I,h',E',h1,h2,J⟩:=hw env hE
 cases ex with
 | exit j =>
  cases hj:Nat.beq j i with
  | true =>
   simp only [hj,ag] at J
   refine ⟨N+1,.normal,I,h',E',?_,h2,J⟩
   rw [jj]
   simp only [evStep,h1,hj,ag]
  | false =>
   simp only [hj,az] at J
   refine ⟨N+1,.exit j,I,h',E',?_,h2,J⟩
   rw [jj]
   simp only [evStep,h1,hj,az]
 | normal =>
  refine ⟨N+1,.normal,I,h',E',?_,h2,J⟩
  rw [jj]
  simp only [evStep,h1]
 | ret =>
  refine ⟨N+1,.ret,I,h',E',?_,h2,J⟩
  rw [jj]
  simp only [evStep,h1]
theorem WP.scope {b:Code}(hw:WP C ay b E h Q): WP C ay (.scope b) E h Q:=by
 intro env J
 obtain ⟨N,ex,I,h',E',h1,h2,h3⟩:=hw env J
 exact ⟨N+1,ex,I,h',E',h1,h2,h3⟩
theorem WP.loop {b:Code}(hw:WP C ay b E h fun ex E' h'=>match ex with
  | .normal=>WP C ay (.loop b) E' h' Q
  | ex=>Q ex E' h'): WP C ay (.loop b) E h Q:=by
 intro env hE
 obtain ⟨N,ex,I,h',E',h1,h2,h3⟩:=hw env hE
 cases ex with
 | normal =>
  obtain ⟨M,og,J,N4,E2,g1,g2,g3⟩:=h3 I h2
  refine ⟨Nat.max N M+1,og,J,N4,E2,?_,g2,g3⟩
  rw [jj]
  simp only [evStep,fA (o5 N M) _ _ _ h1]
  exact fA (oZ N M) _ _ _ g1
 | exit i =>
  refine ⟨N+1,.exit i,I,h',E',?_,h2,h3⟩
  rw [jj]
  simp only [evStep,h1]
 | ret =>
  refine ⟨N+1,.ret,I,h',E',?_,h2,h3⟩
  rw [jj]
  simp only [evStep,h1]
theorem aA.nil (I:R E h): aA C ay L [] E h R:=fun env J=>⟨0,env,h,E,rfl,J,I⟩
def wantE (L:List Oper)(E:List (Nat×V))(g:Option (Nat×Bool)): Option Bool:=match g with
 | none=>some true
 | some (j,want)=>match (nth L j).bind (·.dst) with
  | some d=>match look E d with
   | some (.bool b)=>some (b == want)
   | some _=>some false
   | none=>none
  | none=>none
theorem kz {env:Env}{o:Oper}{b:Bool}(hE:jB env E)(hw:wantE L E o.guard=some b): wantedV L env o=b:=by
 unfold wantE at hw
 unfold wantedV
 split at hw
 ·rename_i I; simp only [I]; simpa using hw
 ·rename_i j want I
  simp only [I]
  split at hw
  ·rename_i d hd
   simp only [hd]
   split at hw
   ·rename_i b' J
    simp only [Env.v,hE d _ J]
    simpa using hw
   ·rename_i v dS J
    simp only [Env.v,hE d _ J]
    cases v <;> first | simpa using hw | exact absurd rfl (dS _)
   ·cases hw
  ·cases hw
theorem aA.op {o:Oper}{rest:List Oper}{d:Nat}{v:V}{h₁:H}(hg:wantE L E o.guard=some true)(hd:o.dst=some d)(hn:Nat.blt d ay=true)(ho:opE C.P E h o.op=some (v,h₁))
 (hw:aA C ay L rest ((d,v)::E) h₁ R): aA C ay L (o::rest) E h R:=by
 intro env J
 obtain ⟨N,I,h',E',h1,h2,h3⟩:=hw (env.set d (some v)) (J.set d v)
 refine ⟨N,I,h',E',?_,h2,h3⟩
 simp only [evOps,kz J hg,ag,CM J ho,St.put,hd,hn]
 exact h1
theorem aA.Wa {o:Oper}{rest:List Oper}{v:V}{h₁:H}(hg:wantE L E o.guard=some true)(hd:o.dst=none)(ho:opE C.P E h o.op=some (v,h₁))
 (hw:aA C ay L rest E h₁ R): aA C ay L (o::rest) E h R:=by
 intro env J
 obtain ⟨N,I,h',E',h1,h2,h3⟩:=hw env J
 refine ⟨N,I,h',E',?_,h2,h3⟩
 simp only [evOps,kz J hg,ag,CM J ho,St.put,hd]
 exact h1
theorem aA.no {o:Oper}{rest:List Oper}{d:Nat}(hg:wantE L E o.guard=some false)(hd:o.dst=some d)(hn:Nat.blt d ay=true)
 (hw:aA C ay L rest ((d,bV)::E) h R): aA C ay L (o::rest) E h R:=by
 intro env J
 obtain ⟨N,I,h',E',h1,h2,h3⟩:=hw (env.set d (some bV)) (J.set d bV)
 refine ⟨N,I,h',E',?_,h2,h3⟩
 simp only [evOps,kz J hg,az,St.put,hd,hn,ag]
 exact h1
theorem Fk {o:Oper}{cl:Go.Call}{x:Operand}{k:FuncId}{first cap args:List V}{v:V}{h₁:H}{env:Env}(hE:jB env E)(J:o.op=.call cl)(hc:cl.callee=.value x)
 (hx:lookO E x=some (.fn (.func k) first cap))(ha:lookArgs E cl.args.toList=some args)(I:hG C k (first++(args++cap)) h v h₁):
  ∃N,evOp C (ev C N) env h o=some (v,h₁):=by
 have hb:=I.body
 obtain ⟨N,hN⟩:=I
 refine ⟨N,?_⟩
 simp only [evOp,J,evCall,mZ hE ha,hc,bP hE hx,callV,hb,ag]
 exact hN
theorem aA.call {o:Oper}{rest:List Oper}{d:Nat}{cl:Go.Call}{x:Operand}{k:FuncId}{first cap args:List V}{xo:V→H→Prop}(hg:wantE L E o.guard=some true)(hd:o.dst=some d)(hn:Nat.blt d ay=true)
 (Bz:o.op=.call cl)(hc:cl.callee=.value x)(hx:lookO E x=some (.fn (.func k) first cap))(ha:lookArgs E cl.args.toList=some args)
 (I:Call C k (first++(args++cap)) h xo)(hw:∀v h₁,xo v h₁→aA C ay L rest ((d,v)::E) h₁ R): aA C ay L (o::rest) E h R:=by
 intro env hE
 obtain ⟨v,h₁,yO,hr⟩:=I
 obtain ⟨N,hN⟩:=Fk hE Bz hc hx ha yO
 obtain ⟨M,J,h',E',h1,h2,h3⟩:=hw v h₁ hr (env.set d (some v)) (hE.set d v)
 refine ⟨Nat.max N M,J,h',E',?_,h2,h3⟩
 simp only [evOps,kz hE hg,ag,my (fA (o5 N M)) hN,St.put,hd,hn]
 exact p_ (fA (oZ N M)) _ _ _ h1
end
def Has (E:List (Nat×V)): List (Nat×V)→Prop
 | []=>True
 | p::F=>look E p.1=some p.2∧Has E F
theorem Has.sub {E:List (Nat×V)}: ∀ {F:List (Nat×V)},Has E F→∀t v,look F t=some v→look E t=some v:=by
 intro F
 induction F with
 | nil=>intro _ t v h; cases h
 | cons p F ih =>
  intro I t v h
  simp only [look] at h
  by_cases J:p.1=t
  ·subst J
   rw [gP rfl,ag] at h
   rw [I.1]; exact h
  ·rw [dc J,az] at h
   exact ih I.2 t v h
theorem WP.has {C:cL}{ay:Nat}{code:Code}{E F:List (Nat×V)}{h:H}{Q:Ex→List (Nat×V)→H→Prop}(I:Has E F)(hw:WP C ay code F h Q): WP C ay code E h Q:=WP.sub I.sub hw
theorem Yt {P:Program}{s:St}{E:List (Nat×V)}(I:jB s.env E){t:Nat}{v:V}(h:look E t=some v): resV P s (.tmp t)=some v:=by
 simp only [resV,Env.v,I t v h]
noncomputable def resE (P:Program)(E:List (Nat×V))(h:H): ResultVar→Option V
 | .tmp t=>look E t
 | .cell a t=>match look E a with
  | some p=>loadV P h t p
  | none=>none
theorem Uh {P:Program}{E:List (Nat×V)}{s:St}(hE:jB s.env E){x:ResultVar}{v:V}(I:resE P E s.h x=some v): resV P s x=some v:=by
 cases x with
 | tmp t=>exact Yt hE I
 | cell a t =>
  simp only [resE] at I
  cases J:look E a with
  | none=>simp [J] at I
  | some p=>simp only [J] at I; simp only [resV,Env.v,hE a p J]; exact I
noncomputable def iI (P:Program)(E:List (Nat×V))(h:H)(rs:List ResultVar): Option V:=match mapO (resE P E h) rs with
 | some [v]=>some v
 | some vs=>some (.bj vs)
 | none=>none
theorem AO {P:Program}{E:List (Nat×V)}{s:St}(hE:jB s.env E): ∀ {rs:List ResultVar} {vs:List V},mapO (resE P E s.h) rs=some vs→mapO (resV P s) rs=some vs:=by
 intro rs
 induction rs with
 | nil=>intro vs h; exact h
 | cons x rs ih =>
  intro vs h
  simp only [mapO] at h
  cases I:resE P E s.h x with
  | none=>simp [I] at h
  | some v =>
   cases J:mapO (resE P E s.h) rs with
   | none=>simp [I,J] at h
   | some m=>simp only [I,J] at h; simp only [mapO,Uh hE I,ih J]; exact h
def argE : List V→Nat→List (Nat×V)
 | [],_=>[]
 | v::l,k=>(k,v)::argE l (k+1)
theorem N5 : ∀(l:List V) (k t:Nat),look (argE l k) t=if k≤t∧t<k+l.length then l[t-k]? else none:=by
 intro l
 induction l with
 | nil=>intro k t; simp [argE,look]
 | cons v l J =>
  intro k t
  simp only [argE,look]
  by_cases h:k=t
  ·subst h; simp
  ·rw [dc h,az,J]
   by_cases I:k+1≤t∧t<k+1+l.length
   ·rw [aj I,aj (by simp; omega),show t-k=(t-(k+1))+1 from by omega]; simp
   ·rw [ah I]
    split
    ·simp at *; omega
    ·rfl
theorem wq (l:List V): jB (bindArgs l 0 .lf) (argE l 0):=by
 intro t v h
 rw [N5] at h
 rw [tU]
 split at h
 ·rename_i I; rw [aj I]; exact h
 ·cases h
theorem Call.of_wp {C : cL} {f : FuncId} {fn : Func} {code : Code} {args : List V} {h : H} {R : V → H → Prop} (ht : C.told f = none) (hf : C.P.funcs[f]? = some fn) (hb : fn.body = some code)
  (hq : (fn.name == "runtime.NumGoroutine" || Nat.blt fn.ntmps args.length) = false)
  (hw : WP C fn.ntmps code (argE args 0) h fun ex E' h' => (match ex with | .exit _ => False | _ => True) ∧ ∃ v, iI C.P E' h' fn.results.toList = some v ∧ R v h') : Call C f args h R := by
 obtain ⟨N, ex, J, h', E', h1, h2, h3, v, I, h5⟩ := hw _ (wq args)
 refine ⟨v, h', ⟨N, ?_⟩, h5⟩
 unfold callF
 simp only [ht, hf, hb, hq, az, h1]
 unfold iI at I
 cases hm : mapO (resE C.P E' h') fn.results.toList with
 | none => simp [hm] at I
 | some vs =>
  rw [hm] at I
  have yo := AO (P := C.P) (s := ⟨J, fn.ntmps, h'⟩) h2 hm
  cases ex with
  | exit i => exact h3.elim
  | normal =>
   simp only [yo]
   match vs, I with
   | [], I => simpa using I
   | [x], I => simpa using I
   | x :: y :: l, I => simpa using I
  | ret =>
   simp only [yo]
   match vs, I with
   | [], I => simpa using I
   | [x], I => simpa using I
   | x :: y :: l, I => simpa using I
end Go.Proofs.YtefepnnfphdkpaaGreat.Am
