/- SpaceAll: a part of its proof; conditions: its statement's. -/
import Derived.Test.YtefepnnfphdkpaaGreatA23
import Derived.Test.YtefepnnfphdkpaaGreatA11
set_option linter.defProp false
namespace Go.Proofs.YtefepnnfphdkpaaGreat.Am
open Go
def jG:=@Tryz.underlying26
structure uO (ε:aH): Prop where
 pl:ε.1.Ok
 lg:ε.2.1.Ok
 dk:ε.2.2.Ok
theorem KT {ε:aH}{i:Nat}(h:ε.1.Ok): (outF ε i).2.1.Ok:=by
 unfold outF
 split
 ·exact h
 ·rename_i f J
  have hm:=aU J
  split
  ·exact h
  ·split
   ·exact h
   ·split
    ·exact h
    ·split
     ·exact h
     ·refine ⟨by simp only [bI]; exact h.hand,by simp only [bI]; exact h.many,fun e he=>by simp only [bI]; exact h.aY e he,fun g I => ?_,fun g I => ?_⟩
      ·rcases jS I with I | rfl
       ·exact h.len g I
       ·exact h.len f hm
      ·rcases jS I with I | rfl
       ·exact h.pins g I
       ·exact h.pins f hm
theorem sX {ε:aH}{i:Nat}(h:uO ε): uO (outF ε i).2:=⟨KT h.pl,KP h.lg,wT h.dk⟩
theorem D1 {δ:Dk}{n:Int}{b:List Nat}: (δ.cH n b).2.waiting.length≤δ.waiting.length+1:=by
 unfold Dk.cH
 split
 ·exact o_ _
 ·split
  ·exact o_ _
  ·split
   ·exact o_ _
   ·exact Nat.le_of_eq (by simp [Dk.wr])
section
variable {told:cX} {h:H} {S:List au} {X:au} {r k q p bF:Nat} {v x wh di:V} {l b:List Nat} {π:Pl} {m:List Fm} {μ:Lg} {δ:Dk}
end
section
variable {told:cX} {h:H} {S:List au} {X:au} {r k q p bF:Nat} {v x wh di:V} {l b:List Nat} {π:Pl} {m:List Fm} {μ:Lg} {δ:Dk}
end
section
variable {C:bY} {ax:Nat} {E:List (Nat×V)} {h:H} {Q Q':Ex→List (Nat×V)→H→Prop} {a b:Code}
end
end Go.Proofs.YtefepnnfphdkpaaGreat.Am
namespace Go.Proofs.YtefepnnfphdkpaaGreat.Am
open Go
section
variable {h:H} {r ij since clock b:Nat} {seen:List Nat} {es:fl}
end
open Classical in
noncomputable def qi (P:Program)(f:FuncId)(gy:List V→H→V×H→Prop)(args:List V)(h:H): Option (V×H) :=
 if I:∃r,gy args h r∧∀(c:Ctx) (w:World),Rel c h w→(∀x∈args,wf c x)→iF P f args c w r.1 r.2 then some I.choose else none
theorem IS {P : Program} {f : FuncId} {gy : List V → H → V × H → Prop} (J : ∃ fn, P.funcs[f]? = some fn ∧ fn.body.isSome = true ∧ (fn.name == "runtime.NumGoroutine") = false) : Ej P f (qi P f gy) := by
 refine .inl ⟨J, fun args σ v dY I c w h hw => ?_⟩
 unfold qi at I
 split at I
 ·rename_i hx
  have := hx.choose_spec.2 c w h hw
  injection I with I
  rw [I] at this
  exact this
 ·cases I
theorem IT {P:Program}{f:FuncId}{gy:List V→H→V×H→Prop}{args:List V}{h:H}{r:V×H}(J:gy args h r)(h2:∀(c:Ctx) (w:World),Rel c h w→(∀x∈args,wf c x)→iF P f args c w r.1 r.2):
  ∃r,qi P f gy args h=some r∧gy args h r:=by
 have I:∃r,gy args h r∧∀(c:Ctx) (w:World),Rel c h w→(∀x∈args,wf c x)→iF P f args c w r.1 r.2:=⟨r,J,h2⟩
 refine ⟨I.choose,?_,I.choose_spec.1⟩
 unfold qi
 rw [dif_pos I]
noncomputable def vP (f:Nat): Option (List V→H→Option (V×H)) :=
 cond (Nat.beq f 61) (some (toldSorted vM)) (cond (Nat.beq f 178) (some toldMore) none)
noncomputable abbrev CB : bY:=⟨Tryz.prog,vP⟩
theorem CK : Tryz.prog.follows .mixedOrders=true:=by kernel_rfl
theorem CL : fg CB:=by
 intro f g I
 simp only [CB,vP] at I ⊢
 by_cases h1:f=61
 ·subst h1
  rw [gr rfl,af] at I
  simp only [aj] at I
  subst I
  exact .inl ⟨⟨_,Tryz.func61,rfl,by decide⟩,fun args σ v J hr c w h _=>Bq bG Il hr h⟩
 ·rw [cE h1,ay] at I
  by_cases h2:f=178
  ·subst h2
   rw [gr rfl,af] at I
   simp only [aj] at I
   subst I
   exact .inl ⟨⟨_,xT,rfl,by decide⟩,fun args σ v J hr c w h hw=>DN (C:=CB) rfl CK hr h hw⟩
  ·rw [cE h2,ay] at I
   cases I
theorem W.base : W vP:=by
 refine ⟨fun f I => ?_,rfl,rfl⟩
 have J:f≠61:=fun e=>by subst e; revert I; decide
 have h2:f≠178:=fun e=>by subst e; revert I; decide
 simp only [vP,cE J,cE h2,ay]
section
variable {P:Program} {h:H} {S:List au} {k id off n:Nat} {cs:List V} {st:Bool} {v:V} {t:TypeId}
end
section
variable {told:cX} {h:H} {S:List au} {X:au} {r k q p bF:Nat} {v x wh di:V} {l b:List Nat} {π:Pl} {m:List Fm} {μ:Lg} {δ:Dk}
end
section
variable {told:cX} {h:H} {S:List au} {X:au} {r k q p bF:Nat} {v x wh di:V} {l b:List Nat} {π:Pl} {m:List Fm} {μ:Lg} {δ:Dk}
end
section
variable {told:cX} {h:H} {S:List au} {X:au} {r k q p bF:Nat} {v x wh di:V} {l b:List Nat} {π:Pl} {m:List (Int×(Nat×Bool))} {μ:Lg} {δ:Dk}
end
theorem er.ah {π I:Pl}(J:er π I): ∀g∈I.ah,∃f∈π.ah,∃t,g={ f with dz:=t }:=by
 intro g hg
 obtain ⟨i,hi,rfl⟩:=List.mem_iff_getElem.1 hg
 have hf:π.ah[i]?=some (π.ah[i]'(by rw [←J.len]; exact hi)):=aN _
 obtain ⟨t,ht⟩:=J.get i _ hf
 rw [aN hi] at ht
 exact ⟨_,oX _,t,bH ht⟩
theorem er.ok {π I:Pl}(J:er π I)(h:π.Ok)(hh:I.hand<I.ah.length): I.Ok:=by
 refine ⟨hh,by rw [J.len]; exact h.many,by rw [J.aY,J.len]; exact h.aY,fun g hg => ?_,fun g hg => ?_⟩
 ·obtain ⟨f,hf,t,rfl⟩:=J.ah g hg
  exact h.len f hf
 ·obtain ⟨f,hf,t,rfl⟩:=J.ah g hg
  exact h.pins f hf
theorem Pl.Ok.set {π:Pl}{i:Nat}{f:Fm}{w:List (Int×Int)}{d:List (Int×(Nat×Bool))}(h:π.Ok)(hw:∀e∈w,0≤e.2∧e.2<π.ah.length)(J:f.b.length≤512)(hp:0≤f.pins∧f.pins≤4294967296): Pl.Ok { π with ah:=π.ah.set i f,aY:=w,bV:=d }:=by
 refine ⟨by simp only [bI]; exact h.hand,by simp only [bI]; exact h.many,fun e he=>by simp only [bI]; exact hw e he,fun g I => ?_,fun g I => ?_⟩
 ·rcases jS I with I | rfl
  ·exact h.len g I
  ·exact J
 ·rcases jS I with I | rfl
  ·exact h.pins g I
  ·exact hp
theorem Np {α:Type}{n:Int}: ∀ {l:List (Int×α)} {e:Int×α},e∈j5 n l→e∈l:=by
 intro l
 induction l with
 | nil=>intro e h; exact h
 | cons x l I =>
  intro e h
  simp only [j5] at h
  split at h
  ·exact cJ _ h
  ·rcases List.mem_cons.1 h with rfl | h
   ·exact c9
   ·exact cJ _ (I h)
theorem Nq {α:Type}{n:Int}{x:α}: ∀ {l:List (Int×α)} {e:Int×α},e∈dr n x l→e=(n,x)∨e∈l:=by
 intro l
 induction l with
 | nil=>intro e h; simp only [dr,rj] at h; exact .inl h
 | cons y l I =>
  intro e h
  simp only [dr] at h
  split at h
  ·rcases List.mem_cons.1 h with rfl | h
   ·exact .inl rfl
   ·exact .inr (cJ _ h)
  ·rcases List.mem_cons.1 h with rfl | h
   ·exact .inr c9
   ·rcases I h with h | h
    ·exact .inl h
    ·exact .inr (cJ _ h)
theorem wU {π:Pl}{i:Nat}{f:Fm}(h:π.Ok): (cu π i f).Ok:=by
 unfold cu
 refine h.set (fun e he => ?_) (by simp [dx]) (by simp [dx])
 split at he
 ·exact h.aY e he
 ·exact h.aY e (Np he)
theorem eu.ok {ε ε':aH}{n e:Int}{b:List Nat}(hr:eu ε n e b ε')(h:uO ε)(hp:∀f∈ε.1.ah,f.pins=0): uO ε':=by
 cases hr with
 | arg _=>exact h
 | yE i f h1 h2 hl hf =>
  have hm:=aU hf
  exact ⟨h.pl.set h.pl.aY (h.pl.len f hm) (by have:=hp f hm; simp only; omega),h.lg,h.dk⟩
 | out I i f h1 h2 hl J hf hh he=>exact sX (ε:=(I,ε.2)) ⟨J.ok h.pl hh,h.lg,h.dk⟩
 | read I i f h1 h2 hl J hf hh he hr =>
  have:=sX (i:=i) (ε:=(I,ε.2)) ⟨J.ok h.pl hh,h.lg,h.dk⟩
  exact ⟨wU this.pl,this.lg,this.dk⟩
 | bad I i f h1 h2 hl J hf hh he hr hc =>
  have:=sX (i:=i) (ε:=(I,ε.2)) ⟨J.ok h.pl hh,h.lg,h.dk⟩
  exact ⟨wU this.pl,this.lg,this.dk⟩
 | load I i f h1 h2 hl J hf hh he hr hc =>
  have:=sX (i:=i) (ε:=(I,ε.2)) ⟨J.ok h.pl hh,h.lg,h.dk⟩
  have h3:=wU (i:=i) (f:=f) this.pl
  have hlen:i<(cu (outF (I,ε.2) i).2.1 i f).ah.length:=by
   obtain ⟨c,hc⟩:=kX (ε:=(I,ε.2)) hf
   have:=(List.getElem?_eq_some_iff.1 hc).1
   simpa [cu] using this
  refine ⟨h3.set (fun e he => ?_) (by simp only; rw [this.dk.at]; omega) (by simp),this.lg,this.dk⟩
  rcases Nq he with rfl | he
  ·simp only; omega
  ·exact h3.aY e he
theorem A9 {π:Pl}{n:Int}(h:π.Ok): (unpinF π n).2.Ok:=by
 unfold unpinF
 split
 ·exact h
 ·rename_i i hi
  split
  ·exact h
  ·rename_i f I
   have hm:=aU I
   refine h.set h.aY (h.len f hm) ?_
   have:=h.pins f hm
   have J:f.pins≠0:=by
    unfold heldI at hi
    split at hi
    ·cases hi
    ·split at hi
     ·cases hi
     ·rename_i g hg
      split at hi
      ·cases hi
      ·rename_i hp
       have:=bH hi
       subst this
       rw [hg] at I
       have:=bH I
       subst this
       exact hp
   simp only; omega
inductive kf (ε:aH)(n:Int): Int→List Nat→aH→Prop where
 | dead (h:ε.2.2.dead=true):kf ε n 9 [] ε
 | gy (e:Int) (b:List Nat) (ε':aH) (h:ε.2.2.dead=false) (hr:eu ε n e b ε') (he:e≠0):kf ε n e [] ε'
 | oO (b:List Nat) (ε':aH) (h:ε.2.2.dead=false) (hr:eu ε n 0 b ε') (he:(unpinF ε'.1 n).1≠0):kf ε n (unpinF ε'.1 n).1 [] ((unpinF ε'.1 n).2,ε'.2)
 | read (b:List Nat) (ε':aH) (h:ε.2.2.dead=false) (hr:eu ε n 0 b ε') (he:(unpinF ε'.1 n).1=0):kf ε n 0 b ((unpinF ε'.1 n).2,ε'.2)
theorem kf.ok {ε ε':aH}{n e:Int}{b:List Nat}(I:kf ε n e b ε')(h:uO ε)(J:∀f∈ε.1.ah,f.pins=0): uO ε':=by
 cases I with
 | dead _=>exact h
 | gy e b ε' hd I he=>exact I.ok h J
 | oO b ε' hd I he=>have:=I.ok h J; exact ⟨A9 this.pl,this.lg,this.dk⟩
 | read b ε' hd I he=>have:=I.ok h J; exact ⟨A9 this.pl,this.lg,this.dk⟩
def E8 (a p q r:Nat)(op dv:V)(bA:Nat): List V:=[.ptr p 0,.ptr q 0,.ptr r 0,op,dv,.int .u64 (bA:Int)]
def dP (a p q r:Nat)(op:V)(data:List Nat)(bA:Nat): au:=xs fun dv:V=>star [pt a (.cells 6 (E8 a p q r op dv bA) false),.cr dv data]
def fo (g a:Nat)(now:List (Int×List Nat))(bE:Bool): au:=xs fun I:V=>star [pt g (.cells 3 [.ptr a 0,I,.bool bE] false),iL (fun v b=>.cr v b) I now]
section
variable {told:cX} {h:H} {S:List au} {X:au} {r k q p bF a g bA:Nat} {op v x wh di:V} {l b data:List Nat} {π:Pl} {m:List Fm} {μ:Lg} {δ:Dk} {now:List (Int×List Nat)} {bE:Bool}
theorem cF : Sat h (dP a p q r op data bA::S)↔∃dv,Sat h (pt a (.cells 6 (E8 a p q r op dv bA) false)::.cr dv data::S):=by
 simp only [dP,g8,cP,gL,dh]
theorem dg : Sat h (fo g a now bE::S)↔∃I,Sat h (pt g (.cells 3 [.ptr a 0,I,.bool bE] false)::iL (fun v b=>.cr v b) I now::S):=by
 simp only [fo,g8,cP,gL,dh]
theorem wV (hT:W told){n:Int}(s:Sat h (dP a p q r op data bA::dB r p q π::bU q p μ::bj p δ::S))(I:uO (π,μ,δ))(J:∀f∈π.ah,f.pins=0)(hw:δ.waiting.length≤268435456):
  Call ⟨Tryz.prog,told⟩ 113 [.ptr a 0,.int .i64 n] h fun v h'=>∃(e:Int) (b:List Nat) (ε:aH),kf (π,μ,δ) n e b ε ∧
   ((e≠0∧v=.aX [.bq,.int .i64 e]∧Sat h' (dP a p q r op data bA::dB r p q ε.1::bU q p ε.2.1::bj p ε.2.2::S)) ∨
    (e=0∧∃u,v=.aX [u,.int .i64 0]∧Sat h' (bg u b::dP a p q r op data bA::dB r p q ε.1::bU q p ε.2.1::bj p ε.2.2::S))):=by
 have s0:=s
 obtain ⟨dv,s⟩:=cF.1 s
 refine Call.of_wp (hT.free _ rfl) Tryz.func113 rfl rfl (zK 10 rfl (zf rfl (vC _ _) (zl rfl (s.ld (k:=0) rfl qS rfl) (zc rfl (Cw hT (s.ae [4])) ?_))))
 rintro v h ⟨rfl,rfl⟩
 refine zv ?_
 cases hd:δ.dead with
 | true =>
  exact zK 6 rfl (WP.ret ⟨aa,_,rfl,9,[],_,.dead hd,.inl ⟨by decide,rfl,s0⟩⟩)
 | false =>
  refine zK 6 rfl (zf rfl (pH _ _) (zl rfl (s.ld (k:=0) rfl vB rfl) (zm rfl (zc rfl (IN (n:=n) hT (s.ae [2,2,2]) I.pl J I.lg I.dk hw) ?_))))
  rintro v h ⟨e,b,ε,hr,(⟨he,rfl,s⟩ | ⟨rfl,u,rfl,s⟩)⟩
  ·dsimp only [bringA,getA,bk] at s
   refine zk 10 rfl (zt rfl (ag rfl rfl aF) (by simp; exact he) ?_)
   exact zk 8 rfl (WP.ret ⟨aa,_,rfl,e,[],ε,.gy e b ε hd hr he,.inl ⟨he,rfl,cF.2 ⟨dv,s.ae [3,3,0,0,0]⟩⟩⟩)
  ·dsimp only [bringA,getA,bk] at s
   refine zk 10 rfl (zh rfl (ag rfl rfl aF) (rfl) ?_)
   have s:=s.ae [4,4,0,0,0,0]
   refine zk 8 rfl (zf rfl (pH _ _) (zl rfl (s.ld (k:=0) rfl vB rfl) (zm rfl ?_)))
   have wz:=hr.ok I J
   refine zc rfl (CJ (n:=n) hT (s.ae [3]) wz.pl) ?_
   rintro v h ⟨rfl,s⟩
   refine zk 5 rfl ?_
   by_cases he:(unpinF ε.1 n).1=0
   ·skip
    refine zh rfl (ag rfl rfl aF) (by simp; exact he) ?_
    exact zk 9 rfl (WP.ret ⟨aa,_,rfl,0,b,_,.read b ε hd hr he,.inr ⟨rfl,u,rfl,(cF.2 ⟨dv,s.ae [1,1,0,1,1,0]⟩).ae [4,0,0,0,0]⟩⟩)
   ·skip
    refine zt rfl (ag rfl rfl aF) (by simp; exact he) ?_
    exact zk 8 rfl (WP.ret ⟨aa,_,rfl,_,[],_,.oO b ε hd hr he,.inl ⟨he,rfl,(cF.2 ⟨dv,(s.ae [1,1,0,1,1,0]).del 5⟩)⟩⟩)
end
structure Pl.Full (π:Pl): Prop where
 nodup:(π.aY.map (·.1)).Nodup
 kE:∀n i,lookL n π.aY=some i→0≤n∧∃f,π.ah[i.toNat]?=some f∧f.aS=n∧f.b.length=512
structure ig (ε:aH): Prop where
 ok:uO ε
 pins:∀f∈ε.1.ah,f.pins=0
 full:ε.1.Full
theorem Pl.Full.set {π:Pl}{i:Nat}{f g:Fm}{d:List (Int×(Nat×Bool))}(h:π.Full)(hf:π.ah[i]?=some f)(hp:g.aS=f.aS)(hl:f.b.length=512→g.b.length=512): Pl.Full { π with ah:=π.ah.set i g,bV:=d }:=by
 refine ⟨h.nodup,fun n j hj => ?_⟩
 obtain ⟨h1,f',J,h3,h4⟩:=h.kE n j hj
 refine ⟨h1,?_⟩
 by_cases I:i=j.toNat
 ·subst I
  rw [hf] at J
  have:=bH J
  subst this
  exact ⟨g,fG (List.getElem?_eq_some_iff.1 hf).1,hp.trans h3,hl h4⟩
 ·exact ⟨f',by simp only [eL I]; exact J,h3,h4⟩
theorem er.full {π I:Pl}(J:er π I)(h:π.Full): I.Full:=by
 refine ⟨by rw [J.aY]; exact h.nodup,fun n j hj => ?_⟩
 rw [J.aY] at hj
 obtain ⟨h1,f',h2,h3,h4⟩:=h.kE n j hj
 obtain ⟨t,ht⟩:=J.get _ _ h2
 exact ⟨h1,_,ht,h3,h4⟩
theorem qH {ε:aH}{i:Nat}(h:ε.1.Full): (outF ε i).2.1.Full:=by
 unfold outF
 split
 ·exact h
 ·rename_i f I
  split
  ·exact h
  ·split
   ·exact h
   ·split
    ·exact h
    ·split
     ·exact h
     ·exact h.set I rfl fun J=>J
theorem sY {π:Pl}{i:Nat}{f g:Fm}(h:π.Full)(hg:π.ah[i]?=some g)(hp:g.aS=f.aS): (cu π i f).Full∧∀n j,lookL n (cu π i f).aY=some j→j.toNat≠i:=by
 have key:∀n j,lookL n (cu π i f).aY=some j→lookL n π.aY=some j∧j.toNat≠i:=by
  intro n j I
  by_cases hf:f.aS<0
  ·have hw:(cu π i f).aY=π.aY:=by simp only [cu,aq hf]
   rw [hw] at I
   refine ⟨I,fun hi => ?_⟩
   obtain ⟨h1,f',J,h3,_⟩:=h.kE n j I
   rw [hi,hg] at J
   have:=bH J
   subst this
   omega
  ·have hw:(cu π i f).aY=j5 f.aS π.aY:=by simp only [cu,ai hf]
   rw [hw,A3 h.nodup] at I
   by_cases hn:f.aS=n
   ·rw [aq hn] at I; cases I
   ·rw [ai hn] at I
    refine ⟨I,fun hi => ?_⟩
    obtain ⟨h1,f',J,h3,_⟩:=h.kE n j I
    rw [hi,hg] at J
    have:=bH J
    subst this
    omega
 refine ⟨⟨?_,fun n j I => ?_⟩,fun n j I=>(key n j I).2⟩
 ·unfold cu
  simp only
  split
  ·exact h.nodup
  ·exact sR h.nodup
 ·obtain ⟨h1,J⟩:=key n j I
  obtain ⟨h3,f',h4,h5,h6⟩:=h.kE n j h1
  exact ⟨h3,f',by simp only [cu,eL (iT J)]; exact h4,h5,h6⟩
theorem D2 {π:Pl}{i:Nat}{n:Int}{b:List Nat}(h:π.Full)(hi:i<π.ah.length)(J:∀n j,lookL n π.aY=some j→j.toNat≠i)(hn:0≤n)(hb:b.length=512): (gJ π i n b).Full:=by
 refine ⟨jM h.nodup,fun m j I => ?_⟩
 simp only [gJ,nT] at I
 by_cases hm:n=m
 ·rw [aq hm] at I
  have:=bH I
  subst this; subst hm
  exact ⟨hn,⟨n,b,1,true,false⟩,fG hi,rfl,hb⟩
 ·rw [ai hm] at I
  obtain ⟨h3,f',h4,h5,h6⟩:=h.kE m j I
  exact ⟨h3,f',by simp only [gJ,eL (iT (J m j I))]; exact h4,h5,h6⟩
theorem eu.full {ε ε':aH}{n e:Int}{b:List Nat}(hr:eu ε n e b ε')(hd:ε.2.2.Ok)(h:ε.1.Full): ε'.1.Full∧(e=0→b.length=512):=by
 cases hr with
 | arg _=>exact ⟨h,fun h=>(by cases h)⟩
 | yE i f h1 h2 hl hf =>
  refine ⟨h.set hf rfl fun hl=>hl,fun _ => ?_⟩
  obtain ⟨_,f',h4,_,h6⟩:=h.kE n i hl
  rw [cg,hf] at h4
  have:=bH h4
  subst this
  exact h6
 | out I i f h1 h2 hl hn hf hh he=>exact ⟨qH (ε:=(I,ε.2)) (hn.full h),fun h=>absurd h he⟩
 | read I i f h1 h2 hl hn hf hh he hr =>
  obtain ⟨c,J⟩:=kX (ε:=(I,ε.2)) hf
  exact ⟨(sY (f:=f) (qH (ε:=(I,ε.2)) (hn.full h)) J rfl).1,fun h=>absurd h hr⟩
 | bad I i f h1 h2 hl hn hf hh he hr hc =>
  obtain ⟨c,J⟩:=kX (ε:=(I,ε.2)) hf
  exact ⟨(sY (f:=f) (qH (ε:=(I,ε.2)) (hn.full h)) J rfl).1,fun h=>absurd h hc⟩
 | load I i f h1 h2 hl hn hf hh he hr hc =>
  obtain ⟨c,J⟩:=kX (ε:=(I,ε.2)) hf
  have hi:=(List.getElem?_eq_some_iff.1 J).1
  obtain ⟨k1,k2⟩:=sY (f:=f) (qH (ε:=(I,ε.2)) (hn.full h)) J rfl
  have wD:=(wT (ε:=(I,ε.2)) (i:=i) hd).at n
  exact ⟨D2 k1 (by simp only [cu,bI]; exact hi) k2 h1 wD,fun _=>wD⟩
theorem wE {π:Pl}{n:Int}(h:π.Full): (unpinF π n).2.Full:=by
 unfold unpinF
 split
 ·exact h
 ·split
  ·exact h
  ·rename_i f I
   exact h.set I rfl fun J=>J
theorem er.pins {π I:Pl}(J:er π I)(h:∀f∈π.ah,f.pins=0): ∀f∈I.ah,f.pins=0:=fun g hg=>by
 obtain ⟨f,hf,t,rfl⟩:=J.ah g hg
 exact h f hf
theorem qI {ε:aH}{i:Nat}(h:∀f∈ε.1.ah,f.pins=0): ∀f∈(outF ε i).2.1.ah,f.pins=0:=by
 unfold outF
 split
 ·exact h
 ·rename_i f J
  have hm:=aU J
  split
  ·exact h
  ·split
   ·exact h
   ·split
    ·exact h
    ·split
     ·exact h
     ·intro g I
      rcases jS I with I | rfl
      ·exact h g I
      ·exact h f hm
theorem sZ {π:Pl}{i:Nat}{f:Fm}(h:∀f∈π.ah,f.pins=0): ∀f∈(cu π i f).ah,f.pins=0:=by
 intro g I
 rcases jS I with I | rfl
 ·exact h g I
 ·rfl
theorem eu.E9 {ε ε':aH}{n e:Int}{b:List Nat}(hr:eu ε n e b ε')(he:e≠0)(hp:∀f∈ε.1.ah,f.pins=0): ∀f∈ε'.1.ah,f.pins=0:=by
 cases hr with
 | arg _=>exact hp
 | yE i f h1 h2 hl hf=>exact absurd rfl he
 | out I i f h1 h2 hl J hf hh he=>exact qI (ε:=(I,ε.2)) (J.pins hp)
 | read I i f h1 h2 hl J hf hh he hr=>exact sZ (f:=f) (qI (ε:=(I,ε.2)) (J.pins hp))
 | bad I i f h1 h2 hl J hf hh he hr hc=>exact sZ (f:=f) (qI (ε:=(I,ε.2)) (J.pins hp))
 | load I i f h1 h2 hl J hf hh he hr hc=>exact absurd rfl he
theorem CM {m:List Fm}{i:Nat}{f g:Fm}(h:∀f∈m,f.pins=0)(J:g.pins=0): ∀x∈(m.set i f).set i g,x.pins=0:=by
 intro x I
 rw [vn] at I
 rcases jS I with I | rfl
 ·exact h x I
 ·exact J
theorem qj {π:Pl}{n:Int}{i:Nat}{f:Fm}(hl:lookL n π.aY=some (i:Int))(I:π.ah[i]?=some f)(J:f.pins=1): heldI π n=some i∧unpinF π n=(0,{ π with ah:=π.ah.set i { f with pins:=0 } }):=by
 have h1:heldI π n=some i:=by
  simp only [heldI,hl,cg,I,J]
  rfl
 refine ⟨h1,?_⟩
 simp only [unpinF,h1,I,J]
 rfl
theorem KU {α:Type}{n:Int}{x:α}{l:List (Int×α)}: lookL n (dr n x l)=some x:=by rw [nT,aq rfl]
theorem eu.at {ε ε':aH}{n:Int}{b:List Nat}(hr:eu ε n 0 b ε')(hp:∀f∈ε.1.ah,f.pins=0):
  ∃(i:Nat) (f:Fm),lookL n ε'.1.aY=some (i:Int)∧ε'.1.ah[i]?=some f∧f.pins=1∧f.b=b∧∀g:Fm,g.pins=0→∀x∈ε'.1.ah.set i g,x.pins=0:=by
 generalize J:(0:Int)=e at hr
 cases hr with
 | arg _=>cases J
 | yE i f h1 h2 hl hf =>
  have hi:=(List.getElem?_eq_some_iff.1 hf).1
  refine ⟨i,{ f with dz:=true,pins:=f.pins+1 },hl,by simp [hi],by have:=hp f (aU hf); show f.pins+1=1; omega,rfl,fun g hg=>CM hp hg⟩
 | out I i f h1 h2 hl hn hf hh he=>exact absurd J.symm he
 | read I i f h1 h2 hl hn hf hh he hr=>exact absurd J.symm hr
 | bad I i f h1 h2 hl hn hf hh he hr hc=>exact absurd J.symm hc
 | load I i f h1 h2 hl hn hf hh he hr hc =>
  obtain ⟨c,RD⟩:=kX (ε:=(I,ε.2)) hf
  have hi:=(List.getElem?_eq_some_iff.1 RD).1
  refine ⟨i,⟨n,_,1,true,false⟩,KU,fG (by show i<(List.set _ i _).length; rw [bI]; exact hi),rfl,rfl,fun g hg=>CM (sZ (f:=f) (qI (ε:=(I,ε.2)) (hn.pins hp))) hg⟩
theorem eu.wW {ε ε':aH}{n:Int}{b:List Nat}(I:eu ε n 0 b ε')(J:∀f∈ε.1.ah,f.pins=0): (unpinF ε'.1 n).1=0∧∀f∈(unpinF ε'.1 n).2.ah,f.pins=0:=by
 obtain ⟨i,f,h1,h2,h3,h4,h5⟩:=I.at J
 rw [(qj h1 h2 h3).2]
 exact ⟨rfl,h5 _ rfl⟩
theorem kf.lH {ε ε':aH}{n e:Int}{b:List Nat}(I:kf ε n e b ε')(h:ig ε): ig ε':=by
 refine ⟨I.ok h.ok h.pins,?_,?_⟩
 ·cases I with
  | dead _=>exact h.pins
  | gy e b ε' J I he=>exact I.E9 he h.pins
  | oO b ε' J I he=>exact (I.wW h.pins).2
  | read b ε' J I he=>exact (I.wW h.pins).2
 ·cases I with
  | dead _=>exact h.full
  | gy e b ε' J I he=>exact (I.full h.ok.dk h.full).1
  | oO b ε' J I he=>exact wE (I.full h.ok.dk h.full).1
  | read b ε' J I he=>exact wE (I.full h.ok.dk h.full).1
theorem kf.len {ε ε':aH}{n:Int}{b:List Nat}(J:kf ε n 0 b ε')(h:ig ε): b.length=512:=by
 generalize I:(0:Int)=e at J
 cases J with
 | dead _=>cases I
 | gy e b ε' hd J he=>exact absurd I.symm he
 | oO b ε' hd J he=>exact absurd I.symm he
 | read b ε' hd J he=>exact (J.full h.ok.dk h.full).2 rfl
inductive mq (ε:aH)(now:List (Int×List Nat))(bE:Bool)(n:Int): Int→List Nat→aH→Prop where
 | arg (h:¬(0≤n∧n<ε.2.2.aT.length)):mq ε now bE n 1 [] ε
 | bE (h1:0≤n) (h2:n<ε.2.2.aT.length) (h:bE=true):mq ε now bE n 18 [] ε
 | own (b:List Nat) (h1:0≤n) (h2:n<ε.2.2.aT.length) (h:bE=false) (hl:lookL n now=some b):mq ε now bE n 0 b ε
 | read (e:Int) (b:List Nat) (ε':aH) (h1:0≤n) (h2:n<ε.2.2.aT.length) (h:bE=false) (hl:lookL n now=none) (hr:kf ε n e b ε'):mq ε now bE n e b ε'
theorem mq.lH {ε ε':aH}{now:List (Int×List Nat)}{bE:Bool}{n e:Int}{b:List Nat}(I:mq ε now bE n e b ε')(h:ig ε): ig ε':=by
 cases I with
 | arg _=>exact h
 | bE _ _ _=>exact h
 | own _ _ _ _ _=>exact h
 | read e b ε' J h2 h3 hl I=>exact I.lH h
theorem OpR.invoke {C:bY}{E:List (Nat×V)}{h:H}{o:Oper}{cl:Go.Call}{x:Operand}{m:String}{t:TypeId}{u:V}{k:FuncId}{args:List V}{R:V→H→Prop}(J:o.op=.call cl)(hc:cl.callee=.invoke x m)
 (hx:lookO E x=some (.iface t u))(hm:methV C.P t m=some k)(ha:lookArgs E cl.args.toList=some args)(I:Am.Call C k (u::args) h R): OpR C E h o R:=by
 obtain ⟨v,h₁,⟨N,hN⟩,hr⟩:=I
 exact ⟨v,h₁,hr,fun env hE=>⟨N,by simp only [evOp,J,evCall,jX hE ha,hc,bD hE hx,hm]; exact hN⟩⟩
theorem E_ : methV Tryz.prog 26 "Read" = some 76 := by kernel_rfl
theorem Nr : methV Tryz.prog 24 "Read" = some 113 := by kernel_rfl
theorem Q0 {h:H}{t e:TypeId}{x y:Operand}(hu:Tryz.prog.underlying t=some (.pointer e)): binV Tryz.prog h .neq t x y .cL .cL=some (.bool false):=by simp only [binV,eqV,hu]; rfl
theorem s8 {h:H}{t e:TypeId}{x y:Operand}{i o:Nat}(hu:Tryz.prog.underlying t=some (.pointer e)): binV Tryz.prog h .eql t x y (.ptr i o) .cL=some (.bool false):=by simp only [binV,eqV,hu]; rfl
theorem Q1 {h:H}{t e:TypeId}{x y:Operand}{i o:Nat}(hu:Tryz.prog.underlying t=some (.pointer e)): binV Tryz.prog h .eql t x y .cL (.ptr i o)=some (.bool false):=by simp only [binV,eqV,hu]; rfl
theorem Q2 {h:H}{t e k:TypeId}{x y:Operand}{i j n m:Nat}{cs ds:List V}(hu:Tryz.prog.underlying t=some (.pointer e))(I:bh Tryz.prog e=some k)(J:1≤k)(hi:T.get h.tr i=some (.cells n cs false))(hj:T.get h.tr j=some (.cells m ds false))(hn:1≤n)(hm:1≤m):
  binV Tryz.prog h .eql t x y (.ptr i 0) (.ptr j 0)=some (.bool (Nat.beq i j)):=by
 simp only [binV,eqV,hu,I,aB.2 J,af,hi,hj,aB.2 hn,aB.2 hm,eN,dm,Bool.and_true,gN]
section
variable {told:cX} {h:H} {S:List au} {X:au} {r k q p bF a g bA:Nat} {op v x wh di:V} {l b data:List Nat} {π:Pl} {m:List Fm} {μ:Lg} {δ:Dk} {now:List (Int×List Nat)} {bE:Bool}
theorem A_ (I:W told)(s:Sat h (dP a p q r .cL data bA::S)): Call ⟨Tryz.prog,told⟩ 45 [.ptr a 0] h fun v h'=>∃g,v=.aX [.ptr g 0,.int .i64 0]∧Sat h' (fo g a [] false::dP a p q r (.ptr g 0) data bA::S):=by
 obtain ⟨dv,s⟩:=cF.1 s
 refine Call.of_wp (I.free _ rfl) Tryz.func45 rfl rfl (zK 10 rfl (zf rfl (pI _ _) (zl rfl (s.ld (k:=0) rfl F6 rfl) (zh rfl (ag rfl rfl (Q0 jG)) (rfl) (zk 7 rfl ?_)))))
 refine az.Ac s rfl rfl rfl rfl (fun J h s => ?_)
 refine zo rfl (cW rfl (by rw [Qs]; rfl)) ?_
 refine az.cx s rfl rfl rfl (fB rfl rfl) (fun Wx h s => ?_)
 refine zn rfl (zf rfl (pI _ _) ?_)
 refine zS rfl (by exact s.je (k:=2) rfl Ph rfl (by decide) rfl rfl) (fun h s => ?_)
 refine zk 5 rfl (zf rfl (pI _ _) (zl rfl (s.ld (k:=2) rfl F6 rfl) (zk 3 rfl (WP.ret ⟨aa,_,rfl,?_⟩))))
 have s1:=qc (f:=fun v (b:List Nat)=>.cr v b) (s.ae [1])
 have s:=dg.2 ⟨_,s1.ae [1]⟩
 exact ⟨_,rfl,(cF.2 ⟨dv,s.ae [1,1,0]⟩).ae [1]⟩
theorem CN (hT:W told){n:Int}(s:Sat h (fo g a now bE::dP a p q r op data bA::dB r p q π::bU q p μ::bj p δ::S))(gU:ig (π,μ,δ))(hw:δ.waiting.length≤268435456)(s_:∀e∈now,e.2.length=512):
  Call ⟨Tryz.prog,told⟩ 76 [.ptr g 0,.int .i64 n] h fun v h'=>∃(e:Int) (b:List Nat) (ε:aH),mq (π,μ,δ) now bE n e b ε ∧
   ((e≠0∧v=.aX [.bq,.int .i64 e]∧Sat h' (fo g a now bE::dP a p q r op data bA::dB r p q ε.1::bU q p ε.2.1::bj p ε.2.2::S)) ∨
    (e=0∧∃u,v=.aX [u,.int .i64 0]∧Sat h' (bg u b::fo g a now bE::dP a p q r op data bA::dB r p q ε.1::bU q p ε.2.1::bj p ε.2.2::S))):=by
 have s0:=s
 obtain ⟨nv,s⟩:=dg.1 s
 obtain ⟨dv,s⟩:=cF.1 (s.ae [2])
 dsimp only [bringA,getA,bk] at s
 refine Call.of_wp (hT.free _ rfl) Tryz.func76 rfl rfl (zK 6 rfl (WP.block (zK 3 rfl ?_)))
 refine zd rfl (ag rfl rfl aO) ?_ ?_
 ·intro J
  have J:n<0:=by simpa using J
  exact zk 20 rfl (WP.ret ⟨aa,_,rfl,1,[],_,.arg (by simp only; omega),.inl ⟨by decide,rfl,s0⟩⟩)
 ·intro J
  have J:0≤n:=by simp at J; omega
  refine zk 4 rfl (zf rfl (mc _ _) (zl rfl (s.ld (k:=2) rfl uq rfl) (zn rfl (zf rfl (vC _ _) (zl rfl (s.ld (k:=0) rfl qS rfl) (zc rfl (wQ hT (s.ae [6])) ?_))))))
  rintro v h ⟨rfl,rfl⟩
  refine zd rfl (ag rfl rfl od) ?_ ?_
  ·intro I
   have I:(δ.aT.length:Int)≤n:=by simpa using I
   exact zk 9 rfl (WP.ret ⟨aa,_,rfl,1,[],_,.arg (by simp only; omega),.inl ⟨by decide,rfl,s0⟩⟩)
  ·intro I
   have I:n<(δ.aT.length:Int):=by simp at I; omega
   refine zk 8 rfl (zf rfl (vA _ _) ?_)
   cases bE with
   | true =>
    exact zt rfl (bp rfl (s.ld (k:=2) rfl mJ rfl)) (rfl) (zk 8 rfl (WP.ret ⟨aa,_,rfl,18,[],_,.bE J I rfl,.inl ⟨by decide,rfl,s0⟩⟩))
   | false =>
    refine zh rfl (bp rfl (by exact s.ld (k:=2) rfl mJ rfl)) (rfl) ?_
    refine za rfl (zv (zj rfl (WP.skip (zw (zg rfl (zk 2 rfl (zf rfl (nr _ _) (zl rfl (by exact s.ld (k:=2) rfl lJ rfl) ?_))))))))
    refine zm rfl ?_
    rcases mh (n:=n) (fun _ _=>a_.cr _ _) (s.ae [3]) nV bG og with ⟨g1,g2,_⟩ | ⟨u,b,g1,g2,_,s2⟩
    ·refine az.op rfl rfl rfl (iI rfl rfl g2) ?_
     refine zk 5 rfl (zv (zg rfl (zm rfl (zv (zj rfl (WP.skip (zg rfl (zk 2 rfl (zf rfl (mc _ _) (zl rfl (by exact s.ld (k:=2) rfl uq rfl) ?_))))))))))
     refine zm rfl (zc rfl (wV (n:=n) hT (s0.ae [1,1,1,1]) gU.ok gU.pins hw) ?_)
     rintro v h ⟨e,b,ε,hr,(⟨he,rfl,s⟩ | ⟨rfl,u,rfl,s⟩)⟩
     ·dsimp only [bringA,getA,bk] at s
      exact zk 5 rfl (WP.ret ⟨aa,_,rfl,e,b,ε,.read e b ε J I rfl g1 hr,.inl ⟨he,rfl,s.ae [4]⟩⟩)
     ·dsimp only [bringA,getA,bk] at s
      exact zk 5 rfl (WP.ret ⟨aa,_,rfl,0,b,ε,.read 0 b ε J I rfl g1 hr,.inr ⟨rfl,u,rfl,s.ae [0,4]⟩⟩)
    ·dsimp only [bringA,getA,bk] at s2
     refine zo rfl (iI rfl rfl g2) (zk 14 rfl ?_)
     have hb:=s_ _ (jK g1)
     refine zc rfl (oL hT s2 (d_ _ _) (by simp only at hb; omega)) ?_
     intro v h s
     refine zk 3 rfl (WP.ret ⟨aa,_,rfl,?_⟩)
     have s:=cF.2 ⟨dv,s.ae [3,3,0,0,0,0,0,0,0]⟩
     have s:=dg.2 ⟨nv,s.ae [4,3]⟩
     exact ⟨0,b,_,.own b J I rfl g1,.inr ⟨rfl,v,rfl,((s.ae [2,0,0,1,1,1]).del 6)⟩⟩
end
inductive ql (ε:aH)(now:List (Int×List Nat))(bE:Bool)(n:Int)(b:List Nat): Int→List (Int×List Nat)→aH→Prop where
 | may (e:Int) (c:List Nat) (ε':aH) (hr:mq ε now bE n e c ε') (he:e≠0):ql ε now bE n b e now ε'
 | bad (c:List Nat) (ε':aH) (hr:mq ε now bE n 0 c ε') (hg:bN b=false):ql ε now bE n b 4 now ε'
 | done (c:List Nat) (ε':aH) (hr:mq ε now bE n 0 c ε') (hg:bN b=true):ql ε now bE n b 0 (dr n b now) ε'
theorem ql.lH {ε ε':aH}{now b_:List (Int×List Nat)}{bE:Bool}{n e:Int}{b:List Nat}(I:ql ε now bE n b e b_ ε')(h:ig ε): ig ε':=by
 cases I with
 | may e c ε' I he=>exact I.lH h
 | bad c ε' I J=>exact I.lH h
 | done c ε' I J=>exact I.lH h
section
variable {told:cX} {h:H} {S:List au} {X:au} {r k q p bF a g bA:Nat} {op v x wh di:V} {l b data:List Nat} {π:Pl} {m:List Fm} {μ:Lg} {δ:Dk} {now:List (Int×List Nat)} {bE:Bool}
theorem PL (hT:W told){n:Int}(s:Sat h (fo g a now bE::dP a p q r op data bA::dB r p q π::bU q p μ::bj p δ::S))(J:ig (π,μ,δ))(hw:δ.waiting.length≤268435456)(I:∀e∈now,e.2.length=512):
  Call ⟨Tryz.prog,told⟩ 106 [.iface 26 (.ptr g 0),.int .i64 n] h fun v h'=>∃(e:Int) (b:List Nat) (ε:aH),mq (π,μ,δ) now bE n e b ε∧v=.int .i64 e ∧
   Sat h' (fo g a now bE::dP a p q r op data bA::dB r p q ε.1::bU q p ε.2.1::bj p ε.2.2::S):=by
 refine Call.of_wp (hT.free _ rfl) Tryz.func106 rfl rfl (zK 8 rfl (az.any rfl rfl rfl (OpR.invoke rfl rfl rfl E_ rfl (CN (n:=n) hT s J hw I)) ?_))
 rintro v h ⟨e,b,ε,hr,(⟨he,rfl,s⟩ | ⟨rfl,u,rfl,s⟩)⟩
 ·refine az.op rfl rfl rfl (bT rfl) ?_
  exact zk 10 rfl (WP.ret ⟨aa,_,rfl,e,b,ε,hr,rfl,s⟩)
 ·skip
  exact zk 11 rfl (WP.ret ⟨aa,_,rfl,0,b,ε,hr,rfl,s.drop⟩)
theorem IU (hT:W told){n:Int}(s:Sat h (fo g a now bE::dP a p q r op data bA::dB r p q π::bU q p μ::bj p δ::X::S))(hX:cN X (cQ x b))(hb:b.length<9223372036854775808)(gU:ig (π,μ,δ))(hw:δ.waiting.length≤268435456)(J:∀e∈now,e.2.length=512):
  Call ⟨Tryz.prog,told⟩ 49 [.ptr g 0,.int .i64 n,x] h fun v h'=>∃(e:Int) (b_:List (Int×List Nat)) (ε:aH),ql (π,μ,δ) now bE n b e b_ ε∧v=.int .i64 e ∧
   Sat h' (fo g a b_ bE::dP a p q r op data bA::dB r p q ε.1::bU q p ε.2.1::bj p ε.2.2::X::S):=by
 refine Call.of_wp (hT.free _ rfl) Tryz.func49 rfl rfl (zK 8 rfl (zo rfl (nJ rfl (lC jG rfl)) (zm rfl (zc rfl (PL (n:=n) hT s gU hw J) ?_))))
 rintro v h ⟨e,c,ε,hr,rfl,s⟩
 refine zk 5 rfl ?_
 by_cases he:e=0
 ·skip
  subst he
  refine zh rfl (ag rfl rfl aF) (rfl) (zk 7 rfl (zc rfl (EZ hT (s.ae [5]) hX hb) ?_))
  rintro v h ⟨rfl,s⟩
  refine zo rfl (eP rfl rfl) (zv ?_)
  by_cases I:bN b=true
  ·skip
   refine WP.LZ rfl (by rw [I]; rfl) ?_
   have S6:=gx I
   obtain ⟨nv,s⟩:=dg.1 (s.ae [1])
   have s:=s.ae [2,0,0]
   obtain ⟨sg,rfl⟩:=Co s (j:=2) rfl
   refine zK 2 rfl ?_
   have s0:=s
   refine WP.drawn [some (0,2),some (0,2),some (0,2),some (0,2),some (0,2),ak,ak,ak] rfl (by kernel_rfl) (by kernel_rfl) ?_
   refine zM rfl (zN rfl (zF rfl (nr _ _) (zL rfl (s.ld (k:=1) rfl lJ rfl) (zM rfl (zM rfl (aD.any rfl rfl rfl rfl (OpR.call rfl rfl rfl rfl (oL hT s hX (by omega))) ?_))))))
   intro u h s
   obtain ⟨qd,_,cap,_,rfl,_⟩:=s.eo (by omega)
   have s:=s.gH
   have s1:=s
   refine aD.lQ rfl rfl rfl (OpR.mapUpdate rfl rfl rfl rfl (lR (f:=fun v b=>au.cr v b) (x:=b) (fun _ _=>a_.cr _ _) (s.ae [0,2]) nV bG)) ?_
   intro w h s
   refine aD.nil ⟨⟨fun _ _=>.inr ⟨rfl,⟨_,bT rfl⟩,bP _ rfl⟩,fun _ _=>.inr ⟨rfl,⟨_,sM rfl⟩,bP _ rfl⟩,fun _ _=>.inr ⟨rfl,⟨_,nq rfl (nr _ _)⟩,bP _ rfl⟩,fh (.inr ⟨rfl,⟨_,bp rfl (s0.ld (k:=1) rfl lJ rfl)⟩,bP _ rfl⟩) (.inr ⟨rfl,⟨_,bp rfl (s1.ld (k:=2) rfl lJ rfl)⟩,bP _ rfl⟩),fun _ _=>.inr ⟨rfl,⟨_,bT rfl⟩,bP _ rfl⟩,aa,aa,aa,aa⟩,?_⟩
   exact zK 4 rfl (WP.ret ⟨aa,_,rfl,0,_,ε,.done c ε hr I,rfl,dg.2 ⟨.map sg,s.ae [2,0,1,1,1,1,0]⟩⟩)
  ·have I:bN b=false:=by simpa using I
   refine WP.F5 rfl (by rw [I]; rfl) ?_
   exact zK 4 rfl (WP.ret ⟨aa,_,rfl,4,_,ε,.bad c ε hr I,rfl,s.ae [1,1,1,1,1,0]⟩)
 ·skip
  refine zt rfl (ag rfl rfl aF) (by simp; exact he) ?_
  exact zk 7 rfl (WP.ret ⟨aa,_,rfl,e,_,ε,.may e c ε hr he,rfl,s⟩)
theorem IV (I:W told)(s:Sat h (fo g a now bE::dP a p q r (.ptr g 0) data bA::S)): Call ⟨Tryz.prog,told⟩ 60 [.ptr g 0] h fun v h'=>v=.aX []∧Sat h' (fo g a now true::dP a p q r .cL data bA::S):=by
 obtain ⟨J,s⟩:=dg.1 s
 obtain ⟨dv,s⟩:=cF.1 (s.ae [2])
 refine Call.of_wp (I.free _ rfl) Tryz.func60 rfl rfl (zK 4 rfl (zf rfl (vA _ _) ?_))
 refine zS rfl (by exact s.je (k:=2) rfl rT rfl (by decide) rfl rfl) (fun h s => ?_)
 refine zk 5 rfl (zf rfl (mc _ _) (zl rfl (s.ld (k:=2) rfl uq rfl) (zn rfl (zf rfl (pI _ _) (zl rfl (s.ld (k:=0) rfl F6 rfl) (zm rfl (zt rfl (ag rfl rfl (Q2 jG Qr (by decide) (s.row (k:=2) rfl) (s.row (k:=2) rfl) (by decide) (by decide))) (dm g) ?_)))))))
 refine zk 5 rfl (zf rfl (mc _ _) (zl rfl (s.ld (k:=2) rfl uq rfl) (zn rfl (zf rfl (pI _ _) ?_))))
 refine zS rfl (by exact s.je (k:=0) rfl Ph rfl (by decide) rfl rfl) (fun h s => ?_)
 refine zv ?_
 have s:=dg.2 ⟨J,(cF.2 ⟨dv,s⟩).ae [1,1]⟩
 exact ⟨aa,_,rfl,rfl,s⟩
theorem D3 (I:W told)(s:Sat h (fo g a now bE::dP a p q r .cL data bA::S)): Call ⟨Tryz.prog,told⟩ 60 [.ptr g 0] h fun v h'=>v=.aX []∧Sat h' (fo g a now true::dP a p q r .cL data bA::S):=by
 obtain ⟨J,s⟩:=dg.1 s
 obtain ⟨dv,s⟩:=cF.1 (s.ae [2])
 dsimp only [bringA,getA,bk] at s
 refine Call.of_wp (I.free _ rfl) Tryz.func60 rfl rfl (zK 4 rfl (zf rfl (vA _ _) ?_))
 refine zS rfl (by exact s.je (k:=2) rfl rT rfl (by decide) rfl rfl) (fun h s => ?_)
 dsimp only [E8,Nat.reduceAdd,List.set,setA] at s
 refine zv (zg rfl (zk 2 rfl (zf rfl (mc _ _) (zl rfl (by exact s.ld (k:=2) rfl uq rfl) ?_))))
 refine zn rfl (zf rfl (pI _ _) (zl rfl (by exact s.ld (k:=0) rfl F6 rfl) ?_))
 refine zm rfl (zh rfl (ag rfl rfl (Q1 jG)) (rfl) (zv (zj rfl (WP.skip ?_))))
 have s:=dg.2 ⟨J,(cF.2 ⟨dv,s⟩).ae [1,1]⟩
 exact ⟨aa,_,rfl,rfl,s⟩
theorem GC (I:W told)(s:Sat h (fo g a now bE::dP a p q r .cL data bA::S)): Call ⟨Tryz.prog,told⟩ 33 [.ptr g 0] h fun v h'=>v=.aX []∧Sat h' (fo g a now true::dP a p q r .cL data bA::S):=by
 refine Call.of_wp (I.free _ rfl) Tryz.func33 rfl rfl (zK 2 rfl (zc rfl (D3 I s) ?_))
 rintro v h ⟨rfl,s⟩
 exact zv ⟨aa,_,rfl,rfl,s⟩
end
end Go.Proofs.YtefepnnfphdkpaaGreat.Am
