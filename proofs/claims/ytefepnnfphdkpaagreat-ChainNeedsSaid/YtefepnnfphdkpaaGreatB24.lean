/- ChainNeeds: a part of its proof; conditions: its statement's. -/
import Derived.Test.YtefepnnfphdkpaaGreatB23
import Derived.Test.YtefepnnfphdkpaaGreatB11
set_option linter.defProp false
namespace Go.Proofs.YtefepnnfphdkpaaGreat.Am
open Go
def j7:=@Tryz.underlying26
structure uT (ε:aF): Prop where
 pl:ε.1.Ok
 lg:ε.2.1.Ok
 dk:ε.2.2.Ok
theorem La {ε:aF}{i:Nat}(h:ε.1.Ok): (outF ε i).2.1.Ok:=by
 unfold outF
 split
 ·exact h
 ·rename_i f J
  have hm:=bh J
  split
  ·exact h
  ·split
   ·exact h
   ·split
    ·exact h
    ·split
     ·exact h
     ·refine ⟨by simp only [b7]; exact h.hand,by simp only [b7]; exact h.many,fun e he=>by simp only [b7]; exact h.bg e he,fun g I => ?_,fun g I => ?_⟩
      ·rcases kU I with I | rfl
       ·exact h.len g I
       ·exact h.len f hm
      ·rcases kU I with I | rfl
       ·exact h.pins g I
       ·exact h.pins f hm
theorem sY {ε:aF}{i:Nat}(h:uT ε): uT (outF ε i).2:=⟨La h.pl,K7 h.lg,w9 h.dk⟩
theorem Ec {δ:Dk}{n:Int}{b:List Nat}: (δ.cJ n b).2.waiting.length≤δ.waiting.length+1:=by
 unfold Dk.cJ
 split
 ·exact o_ _
 ·split
  ·exact o_ _
  ·split
   ·exact o_ _
   ·exact Nat.le_of_eq (by simp [Dk.wr])
section
variable {told:cK} {h:H} {S:List aq} {X:aq} {r k q p bJ:Nat} {v x wh di:V} {l b:List Nat} {π:Pl} {m:List Fm} {μ:Lg} {δ:Dk}
end
section
variable {told:cK} {h:H} {S:List aq} {X:aq} {r k q p bJ:Nat} {v x wh di:V} {l b:List Nat} {π:Pl} {m:List Fm} {μ:Lg} {δ:Dk}
end
section
variable {C:bX} {au:Nat} {E:List (Nat×V)} {h:H} {Q Q':Ex→List (Nat×V)→H→Prop} {a b:Code}
end
end Go.Proofs.YtefepnnfphdkpaaGreat.Am
namespace Go.Proofs.YtefepnnfphdkpaaGreat.Am
open Go
section
variable {h:H} {r iu since clock b:Nat} {seen:List Nat} {es:fq}
end
open Classical in
noncomputable def kN (P:Program)(f:FuncId)(gu:List V→H→V×H→Prop)(args:List V)(h:H): Option (V×H) :=
 if I:∃r,gu args h r∧∀(c:Ctx) (w:World),Rel c h w→(∀x∈args,wf c x)→fV P f args c w r.1 r.2 then some I.choose else none
theorem Bg {P : Program} {f : FuncId} {gu : List V → H → V × H → Prop} (J : ∃ fn, P.funcs[f]? = some fn ∧ fn.body.isSome = true ∧ (fn.name == "runtime.NumGoroutine") = false) : EA P f (kN P f gu) := by
 refine .inl ⟨J, fun args σ v dH I c w h hw => ?_⟩
 unfold kN at I
 split at I
 ·rename_i hx
  have := hx.choose_spec.2 c w h hw
  injection I with I
  rw [I] at this
  exact this
 ·cases I
theorem Bh {P:Program}{f:FuncId}{gu:List V→H→V×H→Prop}{args:List V}{h:H}{r:V×H}(J:gu args h r)(h2:∀(c:Ctx) (w:World),Rel c h w→(∀x∈args,wf c x)→fV P f args c w r.1 r.2):
  ∃r,kN P f gu args h=some r∧gu args h r:=by
 have I:∃r,gu args h r∧∀(c:Ctx) (w:World),Rel c h w→(∀x∈args,wf c x)→fV P f args c w r.1 r.2:=⟨r,J,h2⟩
 refine ⟨I.choose,?_,I.choose_spec.1⟩
 unfold kN
 rw [dif_pos I]
noncomputable def nP (f:Nat): Option (List V→H→Option (V×H)) :=
 cond (Nat.beq f 61) (some (toldSorted vU)) (cond (Nat.beq f 178) (some toldMore) none)
noncomputable abbrev CB : bX:=⟨Tryz.prog,nP⟩
theorem yQ : Tryz.prog.follows .mixedOrders=true:=by kernel_rfl
theorem w_ : eU CB:=by
 intro f g I
 simp only [CB,nP] at I ⊢
 by_cases h1:f=61
 ·subst h1
  rw [gM rfl,af] at I
  simp only [aj] at I
  subst I
  exact .inl ⟨⟨_,Tryz.func61,rfl,by decide⟩,fun args σ v J hr c w h _=>BF bN IJ hr h⟩
 ·rw [cO h1,ay] at I
  by_cases h2:f=178
  ·subst h2
   rw [gM rfl,af] at I
   simp only [aj] at I
   subst I
   exact .inl ⟨⟨_,ya,rfl,by decide⟩,fun args σ v J hr c w h hw=>DZ (C:=CB) rfl yQ hr h hw⟩
  ·rw [cO h2,ay] at I
   cases I
theorem W.base : W nP:=by
 refine ⟨fun f I => ?_,rfl,rfl⟩
 have J:f≠61:=fun e=>by subst e; revert I; decide
 have h2:f≠178:=fun e=>by subst e; revert I; decide
 simp only [nP,cO J,cO h2,ay]
section
variable {P:Program} {h:H} {S:List aq} {k id off n:Nat} {cs:List V} {st:Bool} {v:V} {t:TypeId}
end
section
variable {told:cK} {h:H} {S:List aq} {X:aq} {r k q p bJ:Nat} {v x wh di:V} {l b:List Nat} {π:Pl} {m:List Fm} {μ:Lg} {δ:Dk}
end
section
variable {told:cK} {h:H} {S:List aq} {X:aq} {r k q p bJ:Nat} {v x wh di:V} {l b:List Nat} {π:Pl} {m:List Fm} {μ:Lg} {δ:Dk}
end
section
variable {told:cK} {h:H} {S:List aq} {X:aq} {r k q p bJ:Nat} {v x wh di:V} {l b:List Nat} {π:Pl} {m:List (Int×(Nat×Bool))} {μ:Lg} {δ:Dk}
end
theorem ew.ah {π I:Pl}(J:ew π I): ∀g∈I.ah,∃f∈π.ah,∃t,g={ f with dD:=t }:=by
 intro g hg
 obtain ⟨i,hi,rfl⟩:=List.mem_iff_getElem.1 hg
 have hf:π.ah[i]?=some (π.ah[i]'(by rw [←J.len]; exact hi)):=aY _
 obtain ⟨t,ht⟩:=J.get i _ hf
 rw [aY hi] at ht
 exact ⟨_,rN _,t,bG ht⟩
theorem ew.ok {π I:Pl}(J:ew π I)(h:π.Ok)(hh:I.hand<I.ah.length): I.Ok:=by
 refine ⟨hh,by rw [J.len]; exact h.many,by rw [J.bg,J.len]; exact h.bg,fun g hg => ?_,fun g hg => ?_⟩
 ·obtain ⟨f,hf,t,rfl⟩:=J.ah g hg
  exact h.len f hf
 ·obtain ⟨f,hf,t,rfl⟩:=J.ah g hg
  exact h.pins f hf
theorem Pl.Ok.set {π:Pl}{i:Nat}{f:Fm}{w:List (Int×Int)}{d:List (Int×(Nat×Bool))}(h:π.Ok)(hw:∀e∈w,0≤e.2∧e.2<π.ah.length)(J:f.b.length≤512)(hp:0≤f.pins∧f.pins≤4294967296): Pl.Ok { π with ah:=π.ah.set i f,bg:=w,bZ:=d }:=by
 refine ⟨by simp only [b7]; exact h.hand,by simp only [b7]; exact h.many,fun e he=>by simp only [b7]; exact hw e he,fun g I => ?_,fun g I => ?_⟩
 ·rcases kU I with I | rfl
  ·exact h.len g I
  ·exact J
 ·rcases kU I with I | rfl
  ·exact h.pins g I
  ·exact hp
theorem NK {α:Type}{n:Int}: ∀ {l:List (Int×α)} {e:Int×α},e∈ko n l→e∈l:=by
 intro l
 induction l with
 | nil=>intro e h; exact h
 | cons x l I =>
  intro e h
  simp only [ko] at h
  split at h
  ·exact cC _ h
  ·rcases List.mem_cons.1 h with rfl | h
   ·exact cM
   ·exact cC _ (I h)
theorem NL {α:Type}{n:Int}{x:α}: ∀ {l:List (Int×α)} {e:Int×α},e∈cY n x l→e=(n,x)∨e∈l:=by
 intro l
 induction l with
 | nil=>intro e h; simp only [cY,rG] at h; exact .inl h
 | cons y l I =>
  intro e h
  simp only [cY] at h
  split at h
  ·rcases List.mem_cons.1 h with rfl | h
   ·exact .inl rfl
   ·exact .inr (cC _ h)
  ·rcases List.mem_cons.1 h with rfl | h
   ·exact .inr cM
   ·rcases I h with h | h
    ·exact .inl h
    ·exact .inr (cC _ h)
theorem xb {π:Pl}{i:Nat}{f:Fm}(h:π.Ok): (cA π i f).Ok:=by
 unfold cA
 refine h.set (fun e he => ?_) (by simp [dz]) (by simp [dz])
 split at he
 ·exact h.bg e he
 ·exact h.bg e (NK he)
theorem ey.ok {ε ε':aF}{n e:Int}{b:List Nat}(hr:ey ε n e b ε')(h:uT ε)(hp:∀f∈ε.1.ah,f.pins=0): uT ε':=by
 cases hr with
 | arg _=>exact h
 | yN i f h1 h2 hl hf =>
  have hm:=bh hf
  exact ⟨h.pl.set h.pl.bg (h.pl.len f hm) (by have:=hp f hm; simp only; omega),h.lg,h.dk⟩
 | out I i f h1 h2 hl J hf hh he=>exact sY (ε:=(I,ε.2)) ⟨J.ok h.pl hh,h.lg,h.dk⟩
 | read I i f h1 h2 hl J hf hh he hr =>
  have:=sY (i:=i) (ε:=(I,ε.2)) ⟨J.ok h.pl hh,h.lg,h.dk⟩
  exact ⟨xb this.pl,this.lg,this.dk⟩
 | bad I i f h1 h2 hl J hf hh he hr hc =>
  have:=sY (i:=i) (ε:=(I,ε.2)) ⟨J.ok h.pl hh,h.lg,h.dk⟩
  exact ⟨xb this.pl,this.lg,this.dk⟩
 | load I i f h1 h2 hl J hf hh he hr hc =>
  have:=sY (i:=i) (ε:=(I,ε.2)) ⟨J.ok h.pl hh,h.lg,h.dk⟩
  have h3:=xb (i:=i) (f:=f) this.pl
  have hlen:i<(cA (outF (I,ε.2) i).2.1 i f).ah.length:=by
   obtain ⟨c,hc⟩:=lp (ε:=(I,ε.2)) hf
   have:=(List.getElem?_eq_some_iff.1 hc).1
   simpa [cA] using this
  refine ⟨h3.set (fun e he => ?_) (by simp only; rw [this.dk.at]; omega) (by simp),this.lg,this.dk⟩
  rcases NL he with rfl | he
  ·simp only; omega
  ·exact h3.bg e he
theorem Bi {π:Pl}{n:Int}(h:π.Ok): (unpinF π n).2.Ok:=by
 unfold unpinF
 split
 ·exact h
 ·rename_i i hi
  split
  ·exact h
  ·rename_i f I
   have hm:=bh I
   refine h.set h.bg (h.len f hm) ?_
   have:=h.pins f hm
   have J:f.pins≠0:=by
    unfold heldI at hi
    split at hi
    ·cases hi
    ·split at hi
     ·cases hi
     ·rename_i g hg
      split at hi
      ·cases hi
      ·rename_i hp
       have:=bG hi
       subst this
       rw [hg] at I
       have:=bG I
       subst this
       exact hp
   simp only; omega
inductive kx (ε:aF)(n:Int): Int→List Nat→aF→Prop where
 | dead (h:ε.2.2.dead=true):kx ε n 9 [] ε
 | gu (e:Int) (b:List Nat) (ε':aF) (h:ε.2.2.dead=false) (hr:ey ε n e b ε') (he:e≠0):kx ε n e [] ε'
 | oR (b:List Nat) (ε':aF) (h:ε.2.2.dead=false) (hr:ey ε n 0 b ε') (he:(unpinF ε'.1 n).1≠0):kx ε n (unpinF ε'.1 n).1 [] ((unpinF ε'.1 n).2,ε'.2)
 | read (b:List Nat) (ε':aF) (h:ε.2.2.dead=false) (hr:ey ε n 0 b ε') (he:(unpinF ε'.1 n).1=0):kx ε n 0 b ((unpinF ε'.1 n).2,ε'.2)
theorem kx.ok {ε ε':aF}{n e:Int}{b:List Nat}(I:kx ε n e b ε')(h:uT ε)(J:∀f∈ε.1.ah,f.pins=0): uT ε':=by
 cases I with
 | dead _=>exact h
 | gu e b ε' hd I he=>exact I.ok h J
 | oR b ε' hd I he=>have:=I.ok h J; exact ⟨Bi this.pl,this.lg,this.dk⟩
 | read b ε' hd I he=>have:=I.ok h J; exact ⟨Bi this.pl,this.lg,this.dk⟩
def Fo (a p q r:Nat)(op dv:V)(bA:Nat): List V:=[.ptr p 0,.ptr q 0,.ptr r 0,op,dv,.int .u64 (bA:Int)]
def dR (a p q r:Nat)(op:V)(data:List Nat)(bA:Nat): aq:=xs fun dv:V=>star [pt a (.cells 6 (Fo a p q r op dv bA) false),.cE dv data]
def fy (g a:Nat)(now:List (Int×List Nat))(bI:Bool): aq:=xs fun I:V=>star [pt g (.cells 3 [.ptr a 0,I,.bool bI] false),iN (fun v b=>.cE v b) I now]
section
variable {told:cK} {h:H} {S:List aq} {X:aq} {r k q p bJ a g bA:Nat} {op v x wh di:V} {l b data:List Nat} {π:Pl} {m:List Fm} {μ:Lg} {δ:Dk} {now:List (Int×List Nat)} {bI:Bool}
theorem cG : Sat h (dR a p q r op data bA::S)↔∃dv,Sat h (pt a (.cells 6 (Fo a p q r op dv bA) false)::.cE dv data::S):=by
 simp only [dR,kI,cS,gx,c5]
theorem dn : Sat h (fy g a now bI::S)↔∃I,Sat h (pt g (.cells 3 [.ptr a 0,I,.bool bI] false)::iN (fun v b=>.cE v b) I now::S):=by
 simp only [fy,kI,cS,gx,c5]
theorem xg (hT:W told){n:Int}(s:Sat h (dR a p q r op data bA::dG r p q π::bW q p μ::bp p δ::S))(I:uT (π,μ,δ))(J:∀f∈π.ah,f.pins=0)(hw:δ.waiting.length≤268435456):
  Call ⟨Tryz.prog,told⟩ 113 [.ptr a 0,.int .i64 n] h fun v h'=>∃(e:Int) (b:List Nat) (ε:aF),kx (π,μ,δ) n e b ε ∧
   ((e≠0∧v=.aX [.bu,.int .i64 e]∧Sat h' (dR a p q r op data bA::dG r p q ε.1::bW q p ε.2.1::bp p ε.2.2::S)) ∨
    (e=0∧∃u,v=.aX [u,.int .i64 0]∧Sat h' (aP u b::dR a p q r op data bA::dG r p q ε.1::bW q p ε.2.1::bp p ε.2.2::S))):=by
 have s0:=s
 obtain ⟨dv,s⟩:=cG.1 s
 refine Call.of_wp (hT.free _ rfl) Tryz.func113 rfl rfl (zK 10 rfl (zf rfl (vJ _ _) (zl rfl (s.ld (k:=0) rfl rf rfl) (zc rfl (CO hT (s.ae [4])) ?_))))
 rintro v h ⟨rfl,rfl⟩
 refine zv ?_
 cases hd:δ.dead with
 | true =>
  exact zK 6 rfl (WP.ret ⟨aa,_,rfl,9,[],_,.dead hd,.inl ⟨by decide,rfl,s0⟩⟩)
 | false =>
  refine zK 6 rfl (zf rfl (pI _ _) (zl rfl (s.ld (k:=0) rfl vI rfl) (zm rfl (zc rfl (I9 (n:=n) hT (s.ae [2,2,2]) I.pl J I.lg I.dk hw) ?_))))
  rintro v h ⟨e,b,ε,hr,(⟨he,rfl,s⟩ | ⟨rfl,u,rfl,s⟩)⟩
  ·dsimp only [bringA,getA,aZ] at s
   refine zk 10 rfl (zt rfl (ag rfl rfl aL) (by simp; exact he) ?_)
   exact zk 8 rfl (WP.ret ⟨aa,_,rfl,e,[],ε,.gu e b ε hd hr he,.inl ⟨he,rfl,cG.2 ⟨dv,s.ae [3,3,0,0,0]⟩⟩⟩)
  ·dsimp only [bringA,getA,aZ] at s
   refine zk 10 rfl (zh rfl (ag rfl rfl aL) (rfl) ?_)
   have s:=s.ae [4,4,0,0,0,0]
   refine zk 8 rfl (zf rfl (pI _ _) (zl rfl (s.ld (k:=0) rfl vI rfl) (zm rfl ?_)))
   have uN:=hr.ok I J
   refine zc rfl (C2 (n:=n) hT (s.ae [3]) uN.pl) ?_
   rintro v h ⟨rfl,s⟩
   refine zk 5 rfl ?_
   by_cases he:(unpinF ε.1 n).1=0
   ·skip
    refine zh rfl (ag rfl rfl aL) (by simp; exact he) ?_
    exact zk 9 rfl (WP.ret ⟨aa,_,rfl,0,b,_,.read b ε hd hr he,.inr ⟨rfl,u,rfl,(cG.2 ⟨dv,s.ae [1,1,0,1,1,0]⟩).ae [4,0,0,0,0]⟩⟩)
   ·skip
    refine zt rfl (ag rfl rfl aL) (by simp; exact he) ?_
    exact zk 8 rfl (WP.ret ⟨aa,_,rfl,_,[],_,.oR b ε hd hr he,.inl ⟨he,rfl,(cG.2 ⟨dv,(s.ae [1,1,0,1,1,0]).del 5⟩)⟩⟩)
end
structure Pl.Full (π:Pl): Prop where
 nodup:(π.bg.map (·.1)).Nodup
 kO:∀n i,lookL n π.bg=some i→0≤n∧∃f,π.ah[i.toNat]?=some f∧f.aU=n∧f.b.length=512
structure ir (ε:aF): Prop where
 ok:uT ε
 pins:∀f∈ε.1.ah,f.pins=0
 full:ε.1.Full
theorem Pl.Full.set {π:Pl}{i:Nat}{f g:Fm}{d:List (Int×(Nat×Bool))}(h:π.Full)(hf:π.ah[i]?=some f)(hp:g.aU=f.aU)(hl:f.b.length=512→g.b.length=512): Pl.Full { π with ah:=π.ah.set i g,bZ:=d }:=by
 refine ⟨h.nodup,fun n j hj => ?_⟩
 obtain ⟨h1,f',J,h3,h4⟩:=h.kO n j hj
 refine ⟨h1,?_⟩
 by_cases I:i=j.toNat
 ·subst I
  rw [hf] at J
  have:=bG J
  subst this
  exact ⟨g,gv (List.getElem?_eq_some_iff.1 hf).1,hp.trans h3,hl h4⟩
 ·exact ⟨f',by simp only [fI I]; exact J,h3,h4⟩
theorem ew.full {π I:Pl}(J:ew π I)(h:π.Full): I.Full:=by
 refine ⟨by rw [J.bg]; exact h.nodup,fun n j hj => ?_⟩
 rw [J.bg] at hj
 obtain ⟨h1,f',h2,h3,h4⟩:=h.kO n j hj
 obtain ⟨t,ht⟩:=J.get _ _ h2
 exact ⟨h1,_,ht,h3,h4⟩
theorem qO {ε:aF}{i:Nat}(h:ε.1.Full): (outF ε i).2.1.Full:=by
 unfold outF
 split
 ·exact h
 ·rename_i f I
  split
  ·exact h
  ·split
   ·exact h
   ·split
    ·exact h
    ·split
     ·exact h
     ·exact h.set I rfl fun J=>J
theorem sZ {π:Pl}{i:Nat}{f g:Fm}(h:π.Full)(hg:π.ah[i]?=some g)(hp:g.aU=f.aU): (cA π i f).Full∧∀n j,lookL n (cA π i f).bg=some j→j.toNat≠i:=by
 have key:∀n j,lookL n (cA π i f).bg=some j→lookL n π.bg=some j∧j.toNat≠i:=by
  intro n j I
  by_cases hf:f.aU<0
  ·have hw:(cA π i f).bg=π.bg:=by simp only [cA,ax hf]
   rw [hw] at I
   refine ⟨I,fun hi => ?_⟩
   obtain ⟨h1,f',J,h3,_⟩:=h.kO n j I
   rw [hi,hg] at J
   have:=bG J
   subst this
   omega
  ·have hw:(cA π i f).bg=ko f.aU π.bg:=by simp only [cA,ai hf]
   rw [hw,A_ h.nodup] at I
   by_cases hn:f.aU=n
   ·rw [ax hn] at I; cases I
   ·rw [ai hn] at I
    refine ⟨I,fun hi => ?_⟩
    obtain ⟨h1,f',J,h3,_⟩:=h.kO n j I
    rw [hi,hg] at J
    have:=bG J
    subst this
    omega
 refine ⟨⟨?_,fun n j I => ?_⟩,fun n j I=>(key n j I).2⟩
 ·unfold cA
  simp only
  split
  ·exact h.nodup
  ·exact sU h.nodup
 ·obtain ⟨h1,J⟩:=key n j I
  obtain ⟨h3,f',h4,h5,h6⟩:=h.kO n j h1
  exact ⟨h3,f',by simp only [cA,fI (iD J)]; exact h4,h5,h6⟩
theorem Ed {π:Pl}{i:Nat}{n:Int}{b:List Nat}(h:π.Full)(hi:i<π.ah.length)(J:∀n j,lookL n π.bg=some j→j.toNat≠i)(hn:0≤n)(hb:b.length=512): (gS π i n b).Full:=by
 refine ⟨jY h.nodup,fun m j I => ?_⟩
 simp only [gS,nW] at I
 by_cases hm:n=m
 ·rw [ax hm] at I
  have:=bG I
  subst this; subst hm
  exact ⟨hn,⟨n,b,1,true,false⟩,gv hi,rfl,hb⟩
 ·rw [ai hm] at I
  obtain ⟨h3,f',h4,h5,h6⟩:=h.kO m j I
  exact ⟨h3,f',by simp only [gS,fI (iD (J m j I))]; exact h4,h5,h6⟩
theorem ey.full {ε ε':aF}{n e:Int}{b:List Nat}(hr:ey ε n e b ε')(hd:ε.2.2.Ok)(h:ε.1.Full): ε'.1.Full∧(e=0→b.length=512):=by
 cases hr with
 | arg _=>exact ⟨h,fun h=>(by cases h)⟩
 | yN i f h1 h2 hl hf =>
  refine ⟨h.set hf rfl fun hl=>hl,fun _ => ?_⟩
  obtain ⟨_,f',h4,_,h6⟩:=h.kO n i hl
  rw [cW,hf] at h4
  have:=bG h4
  subst this
  exact h6
 | out I i f h1 h2 hl hn hf hh he=>exact ⟨qO (ε:=(I,ε.2)) (hn.full h),fun h=>absurd h he⟩
 | read I i f h1 h2 hl hn hf hh he hr =>
  obtain ⟨c,J⟩:=lp (ε:=(I,ε.2)) hf
  exact ⟨(sZ (f:=f) (qO (ε:=(I,ε.2)) (hn.full h)) J rfl).1,fun h=>absurd h hr⟩
 | bad I i f h1 h2 hl hn hf hh he hr hc =>
  obtain ⟨c,J⟩:=lp (ε:=(I,ε.2)) hf
  exact ⟨(sZ (f:=f) (qO (ε:=(I,ε.2)) (hn.full h)) J rfl).1,fun h=>absurd h hc⟩
 | load I i f h1 h2 hl hn hf hh he hr hc =>
  obtain ⟨c,J⟩:=lp (ε:=(I,ε.2)) hf
  have hi:=(List.getElem?_eq_some_iff.1 J).1
  obtain ⟨k1,k2⟩:=sZ (f:=f) (qO (ε:=(I,ε.2)) (hn.full h)) J rfl
  have wM:=(w9 (ε:=(I,ε.2)) (i:=i) hd).at n
  exact ⟨Ed k1 (by simp only [cA,b7]; exact hi) k2 h1 wM,fun _=>wM⟩
theorem wN {π:Pl}{n:Int}(h:π.Full): (unpinF π n).2.Full:=by
 unfold unpinF
 split
 ·exact h
 ·split
  ·exact h
  ·rename_i f I
   exact h.set I rfl fun J=>J
theorem ew.pins {π I:Pl}(J:ew π I)(h:∀f∈π.ah,f.pins=0): ∀f∈I.ah,f.pins=0:=fun g hg=>by
 obtain ⟨f,hf,t,rfl⟩:=J.ah g hg
 exact h f hf
theorem qP {ε:aF}{i:Nat}(h:∀f∈ε.1.ah,f.pins=0): ∀f∈(outF ε i).2.1.ah,f.pins=0:=by
 unfold outF
 split
 ·exact h
 ·rename_i f J
  have hm:=bh J
  split
  ·exact h
  ·split
   ·exact h
   ·split
    ·exact h
    ·split
     ·exact h
     ·intro g I
      rcases kU I with I | rfl
      ·exact h g I
      ·exact h f hm
theorem s8 {π:Pl}{i:Nat}{f:Fm}(h:∀f∈π.ah,f.pins=0): ∀f∈(cA π i f).ah,f.pins=0:=by
 intro g I
 rcases kU I with I | rfl
 ·exact h g I
 ·rfl
theorem ey.Fp {ε ε':aF}{n e:Int}{b:List Nat}(hr:ey ε n e b ε')(he:e≠0)(hp:∀f∈ε.1.ah,f.pins=0): ∀f∈ε'.1.ah,f.pins=0:=by
 cases hr with
 | arg _=>exact hp
 | yN i f h1 h2 hl hf=>exact absurd rfl he
 | out I i f h1 h2 hl J hf hh he=>exact qP (ε:=(I,ε.2)) (J.pins hp)
 | read I i f h1 h2 hl J hf hh he hr=>exact s8 (f:=f) (qP (ε:=(I,ε.2)) (J.pins hp))
 | bad I i f h1 h2 hl J hf hh he hr hc=>exact s8 (f:=f) (qP (ε:=(I,ε.2)) (J.pins hp))
 | load I i f h1 h2 hl J hf hh he hr hc=>exact absurd rfl he
theorem C3 {m:List Fm}{i:Nat}{f g:Fm}(h:∀f∈m,f.pins=0)(J:g.pins=0): ∀x∈(m.set i f).set i g,x.pins=0:=by
 intro x I
 rw [vt] at I
 rcases kU I with I | rfl
 ·exact h x I
 ·exact J
theorem qo {π:Pl}{n:Int}{i:Nat}{f:Fm}(hl:lookL n π.bg=some (i:Int))(I:π.ah[i]?=some f)(J:f.pins=1): heldI π n=some i∧unpinF π n=(0,{ π with ah:=π.ah.set i { f with pins:=0 } }):=by
 have h1:heldI π n=some i:=by
  simp only [heldI,hl,cW,I,J]
  rfl
 refine ⟨h1,?_⟩
 simp only [unpinF,h1,I,J]
 rfl
theorem Lb {α:Type}{n:Int}{x:α}{l:List (Int×α)}: lookL n (cY n x l)=some x:=by rw [nW,ax rfl]
theorem ey.at {ε ε':aF}{n:Int}{b:List Nat}(hr:ey ε n 0 b ε')(hp:∀f∈ε.1.ah,f.pins=0):
  ∃(i:Nat) (f:Fm),lookL n ε'.1.bg=some (i:Int)∧ε'.1.ah[i]?=some f∧f.pins=1∧f.b=b∧∀g:Fm,g.pins=0→∀x∈ε'.1.ah.set i g,x.pins=0:=by
 generalize J:(0:Int)=e at hr
 cases hr with
 | arg _=>cases J
 | yN i f h1 h2 hl hf =>
  have hi:=(List.getElem?_eq_some_iff.1 hf).1
  refine ⟨i,{ f with dD:=true,pins:=f.pins+1 },hl,by simp [hi],by have:=hp f (bh hf); show f.pins+1=1; omega,rfl,fun g hg=>C3 hp hg⟩
 | out I i f h1 h2 hl hn hf hh he=>exact absurd J.symm he
 | read I i f h1 h2 hl hn hf hh he hr=>exact absurd J.symm hr
 | bad I i f h1 h2 hl hn hf hh he hr hc=>exact absurd J.symm hc
 | load I i f h1 h2 hl hn hf hh he hr hc =>
  obtain ⟨c,R_⟩:=lp (ε:=(I,ε.2)) hf
  have hi:=(List.getElem?_eq_some_iff.1 R_).1
  refine ⟨i,⟨n,_,1,true,false⟩,Lb,gv (by show i<(List.set _ i _).length; rw [b7]; exact hi),rfl,rfl,fun g hg=>C3 (s8 (f:=f) (qP (ε:=(I,ε.2)) (hn.pins hp))) hg⟩
theorem ey.xh {ε ε':aF}{n:Int}{b:List Nat}(I:ey ε n 0 b ε')(J:∀f∈ε.1.ah,f.pins=0): (unpinF ε'.1 n).1=0∧∀f∈(unpinF ε'.1 n).2.ah,f.pins=0:=by
 obtain ⟨i,f,h1,h2,h3,h4,h5⟩:=I.at J
 rw [(qo h1 h2 h3).2]
 exact ⟨rfl,h5 _ rfl⟩
theorem kx.lK {ε ε':aF}{n e:Int}{b:List Nat}(I:kx ε n e b ε')(h:ir ε): ir ε':=by
 refine ⟨I.ok h.ok h.pins,?_,?_⟩
 ·cases I with
  | dead _=>exact h.pins
  | gu e b ε' J I he=>exact I.Fp he h.pins
  | oR b ε' J I he=>exact (I.xh h.pins).2
  | read b ε' J I he=>exact (I.xh h.pins).2
 ·cases I with
  | dead _=>exact h.full
  | gu e b ε' J I he=>exact (I.full h.ok.dk h.full).1
  | oR b ε' J I he=>exact wN (I.full h.ok.dk h.full).1
  | read b ε' J I he=>exact wN (I.full h.ok.dk h.full).1
theorem kx.len {ε ε':aF}{n:Int}{b:List Nat}(J:kx ε n 0 b ε')(h:ir ε): b.length=512:=by
 generalize I:(0:Int)=e at J
 cases J with
 | dead _=>cases I
 | gu e b ε' hd J he=>exact absurd I.symm he
 | oR b ε' hd J he=>exact absurd I.symm he
 | read b ε' hd J he=>exact (J.full h.ok.dk h.full).2 rfl
inductive mz (ε:aF)(now:List (Int×List Nat))(bI:Bool)(n:Int): Int→List Nat→aF→Prop where
 | arg (h:¬(0≤n∧n<ε.2.2.aW.length)):mz ε now bI n 1 [] ε
 | bI (h1:0≤n) (h2:n<ε.2.2.aW.length) (h:bI=true):mz ε now bI n 18 [] ε
 | own (b:List Nat) (h1:0≤n) (h2:n<ε.2.2.aW.length) (h:bI=false) (hl:lookL n now=some b):mz ε now bI n 0 b ε
 | read (e:Int) (b:List Nat) (ε':aF) (h1:0≤n) (h2:n<ε.2.2.aW.length) (h:bI=false) (hl:lookL n now=none) (hr:kx ε n e b ε'):mz ε now bI n e b ε'
theorem mz.lK {ε ε':aF}{now:List (Int×List Nat)}{bI:Bool}{n e:Int}{b:List Nat}(I:mz ε now bI n e b ε')(h:ir ε): ir ε':=by
 cases I with
 | arg _=>exact h
 | bI _ _ _=>exact h
 | own _ _ _ _ _=>exact h
 | read e b ε' J h2 h3 hl I=>exact I.lK h
theorem OpR.invoke {C:bX}{E:List (Nat×V)}{h:H}{o:Oper}{cl:Go.Call}{x:Operand}{m:String}{t:TypeId}{u:V}{k:FuncId}{args:List V}{R:V→H→Prop}(J:o.op=.call cl)(hc:cl.callee=.invoke x m)
 (hx:lookO E x=some (.iface t u))(hm:methV C.P t m=some k)(ha:lookArgs E cl.args.toList=some args)(I:Am.Call C k (u::args) h R): OpR C E h o R:=by
 obtain ⟨v,h₁,⟨N,hN⟩,hr⟩:=I
 exact ⟨v,h₁,hr,fun env hE=>⟨N,by simp only [evOp,J,evCall,jj hE ha,hc,bD hE hx,hm]; exact hN⟩⟩
theorem Fq : methV Tryz.prog 26 "Read" = some 76 := by kernel_rfl
theorem NM : methV Tryz.prog 24 "Read" = some 113 := by kernel_rfl
theorem Rr {h:H}{t e:TypeId}{x y:Operand}(hu:Tryz.prog.underlying t=some (.pointer e)): binV Tryz.prog h .neq t x y .cN .cN=some (.bool false):=by simp only [binV,eqV,hu]; rfl
theorem s_ {h:H}{t e:TypeId}{x y:Operand}{i o:Nat}(hu:Tryz.prog.underlying t=some (.pointer e)): binV Tryz.prog h .eql t x y (.ptr i o) .cN=some (.bool false):=by simp only [binV,eqV,hu]; rfl
theorem Rs {h:H}{t e:TypeId}{x y:Operand}{i o:Nat}(hu:Tryz.prog.underlying t=some (.pointer e)): binV Tryz.prog h .eql t x y .cN (.ptr i o)=some (.bool false):=by simp only [binV,eqV,hu]; rfl
theorem Ru {h:H}{t e k:TypeId}{x y:Operand}{i j n m:Nat}{cs ds:List V}(hu:Tryz.prog.underlying t=some (.pointer e))(I:br Tryz.prog e=some k)(J:1≤k)(hi:T.get h.tr i=some (.cells n cs false))(hj:T.get h.tr j=some (.cells m ds false))(hn:1≤n)(hm:1≤m):
  binV Tryz.prog h .eql t x y (.ptr i 0) (.ptr j 0)=some (.bool (Nat.beq i j)):=by
 simp only [binV,eqV,hu,I,aE.2 J,af,hi,hj,aE.2 hn,aE.2 hm,gW,dc,Bool.and_true,gV]
section
variable {told:cK} {h:H} {S:List aq} {X:aq} {r k q p bJ a g bA:Nat} {op v x wh di:V} {l b data:List Nat} {π:Pl} {m:List Fm} {μ:Lg} {δ:Dk} {now:List (Int×List Nat)} {bI:Bool}
theorem Bj (I:W told)(s:Sat h (dR a p q r .cN data bA::S)): Call ⟨Tryz.prog,told⟩ 45 [.ptr a 0] h fun v h'=>∃g,v=.aX [.ptr g 0,.int .i64 0]∧Sat h' (fy g a [] false::dR a p q r (.ptr g 0) data bA::S):=by
 obtain ⟨dv,s⟩:=cG.1 s
 refine Call.of_wp (I.free _ rfl) Tryz.func45 rfl rfl (zK 10 rfl (zf rfl (pJ _ _) (zl rfl (s.ld (k:=0) rfl Gq rfl) (zh rfl (ag rfl rfl (Rr j7)) (rfl) (zk 7 rfl ?_)))))
 refine az.Aq s rfl rfl rfl rfl (fun J h s => ?_)
 refine zo rfl (cX rfl (by rw [QU]; rfl)) ?_
 refine az.cr s rfl rfl rfl (fC rfl rfl) (fun W9 h s => ?_)
 refine zn rfl (zf rfl (pJ _ _) ?_)
 refine zS rfl (by exact s.iw (k:=2) rfl Pv rfl (by decide) rfl rfl) (fun h s => ?_)
 refine zk 5 rfl (zf rfl (pJ _ _) (zl rfl (s.ld (k:=2) rfl Gq rfl) (zk 3 rfl (WP.ret ⟨aa,_,rfl,?_⟩))))
 have s1:=qg (f:=fun v (b:List Nat)=>.cE v b) (s.ae [1])
 have s:=dn.2 ⟨_,s1.ae [1]⟩
 exact ⟨_,rfl,(cG.2 ⟨dv,s.ae [1,1,0]⟩).ae [1]⟩
theorem C4 (hT:W told){n:Int}(s:Sat h (fy g a now bI::dR a p q r op data bA::dG r p q π::bW q p μ::bp p δ::S))(gT:ir (π,μ,δ))(hw:δ.waiting.length≤268435456)(tc:∀e∈now,e.2.length=512):
  Call ⟨Tryz.prog,told⟩ 76 [.ptr g 0,.int .i64 n] h fun v h'=>∃(e:Int) (b:List Nat) (ε:aF),mz (π,μ,δ) now bI n e b ε ∧
   ((e≠0∧v=.aX [.bu,.int .i64 e]∧Sat h' (fy g a now bI::dR a p q r op data bA::dG r p q ε.1::bW q p ε.2.1::bp p ε.2.2::S)) ∨
    (e=0∧∃u,v=.aX [u,.int .i64 0]∧Sat h' (aP u b::fy g a now bI::dR a p q r op data bA::dG r p q ε.1::bW q p ε.2.1::bp p ε.2.2::S))):=by
 have s0:=s
 obtain ⟨nv,s⟩:=dn.1 s
 obtain ⟨dv,s⟩:=cG.1 (s.ae [2])
 dsimp only [bringA,getA,aZ] at s
 refine Call.of_wp (hT.free _ rfl) Tryz.func76 rfl rfl (zK 6 rfl (WP.block (zK 3 rfl ?_)))
 refine zd rfl (ag rfl rfl bf) ?_ ?_
 ·intro J
  have J:n<0:=by simpa using J
  exact zk 20 rfl (WP.ret ⟨aa,_,rfl,1,[],_,.arg (by simp only; omega),.inl ⟨by decide,rfl,s0⟩⟩)
 ·intro J
  have J:0≤n:=by simp at J; omega
  refine zk 4 rfl (zf rfl (mj _ _) (zl rfl (s.ld (k:=2) rfl ux rfl) (zn rfl (zf rfl (vJ _ _) (zl rfl (s.ld (k:=0) rfl rf rfl) (zc rfl (w6 hT (s.ae [6])) ?_))))))
  rintro v h ⟨rfl,rfl⟩
  refine zd rfl (ag rfl rfl uw) ?_ ?_
  ·intro I
   have I:(δ.aW.length:Int)≤n:=by simpa using I
   exact zk 9 rfl (WP.ret ⟨aa,_,rfl,1,[],_,.arg (by simp only; omega),.inl ⟨by decide,rfl,s0⟩⟩)
  ·intro I
   have I:n<(δ.aW.length:Int):=by simp at I; omega
   refine zk 8 rfl (zf rfl (vH _ _) ?_)
   cases bI with
   | true =>
    exact zt rfl (aO rfl (s.ld (k:=2) rfl m6 rfl)) (rfl) (zk 8 rfl (WP.ret ⟨aa,_,rfl,18,[],_,.bI J I rfl,.inl ⟨by decide,rfl,s0⟩⟩))
   | false =>
    refine zh rfl (aO rfl (by exact s.ld (k:=2) rfl m6 rfl)) (rfl) ?_
    refine za rfl (zv (zj rfl (WP.skip (zw (zg rfl (zk 2 rfl (zf rfl (nC _ _) (zl rfl (by exact s.ld (k:=2) rfl lM rfl) ?_))))))))
    refine zm rfl ?_
    rcases mu (n:=n) (fun _ _=>bn.cE _ _) (s.ae [3]) nY bN nA with ⟨g1,g2,_⟩ | ⟨u,b,g1,g2,_,s2⟩
    ·refine az.op rfl rfl rfl (iK rfl rfl g2) ?_
     refine zk 5 rfl (zv (zg rfl (zm rfl (zv (zj rfl (WP.skip (zg rfl (zk 2 rfl (zf rfl (mj _ _) (zl rfl (by exact s.ld (k:=2) rfl ux rfl) ?_))))))))))
     refine zm rfl (zc rfl (xg (n:=n) hT (s0.ae [1,1,1,1]) gT.ok gT.pins hw) ?_)
     rintro v h ⟨e,b,ε,hr,(⟨he,rfl,s⟩ | ⟨rfl,u,rfl,s⟩)⟩
     ·dsimp only [bringA,getA,aZ] at s
      exact zk 5 rfl (WP.ret ⟨aa,_,rfl,e,b,ε,.read e b ε J I rfl g1 hr,.inl ⟨he,rfl,s.ae [4]⟩⟩)
     ·dsimp only [bringA,getA,aZ] at s
      exact zk 5 rfl (WP.ret ⟨aa,_,rfl,0,b,ε,.read 0 b ε J I rfl g1 hr,.inr ⟨rfl,u,rfl,s.ae [0,4]⟩⟩)
    ·dsimp only [bringA,getA,aZ] at s2
     refine zo rfl (iK rfl rfl g2) (zk 14 rfl ?_)
     have hb:=tc _ (jT g1)
     refine zc rfl (oO hT s2 (dZ _ _) (by simp only at hb; omega)) ?_
     intro v h s
     refine zk 3 rfl (WP.ret ⟨aa,_,rfl,?_⟩)
     have s:=cG.2 ⟨dv,s.ae [3,3,0,0,0,0,0,0,0]⟩
     have s:=dn.2 ⟨nv,s.ae [4,3]⟩
     exact ⟨0,b,_,.own b J I rfl g1,.inr ⟨rfl,v,rfl,((s.ae [2,0,0,1,1,1]).del 6)⟩⟩
end
inductive qp (ε:aF)(now:List (Int×List Nat))(bI:Bool)(n:Int)(b:List Nat): Int→List (Int×List Nat)→aF→Prop where
 | may (e:Int) (c:List Nat) (ε':aF) (hr:mz ε now bI n e c ε') (he:e≠0):qp ε now bI n b e now ε'
 | bad (c:List Nat) (ε':aF) (hr:mz ε now bI n 0 c ε') (hg:bP b=false):qp ε now bI n b 4 now ε'
 | done (c:List Nat) (ε':aF) (hr:mz ε now bI n 0 c ε') (hg:bP b=true):qp ε now bI n b 0 (cY n b now) ε'
theorem qp.lK {ε ε':aF}{now cg:List (Int×List Nat)}{bI:Bool}{n e:Int}{b:List Nat}(I:qp ε now bI n b e cg ε')(h:ir ε): ir ε':=by
 cases I with
 | may e c ε' I he=>exact I.lK h
 | bad c ε' I J=>exact I.lK h
 | done c ε' I J=>exact I.lK h
section
variable {told:cK} {h:H} {S:List aq} {X:aq} {r k q p bJ a g bA:Nat} {op v x wh di:V} {l b data:List Nat} {π:Pl} {m:List Fm} {μ:Lg} {δ:Dk} {now:List (Int×List Nat)} {bI:Bool}
theorem PZ (hT:W told){n:Int}(s:Sat h (fy g a now bI::dR a p q r op data bA::dG r p q π::bW q p μ::bp p δ::S))(J:ir (π,μ,δ))(hw:δ.waiting.length≤268435456)(I:∀e∈now,e.2.length=512):
  Call ⟨Tryz.prog,told⟩ 106 [.iface 26 (.ptr g 0),.int .i64 n] h fun v h'=>∃(e:Int) (b:List Nat) (ε:aF),mz (π,μ,δ) now bI n e b ε∧v=.int .i64 e ∧
   Sat h' (fy g a now bI::dR a p q r op data bA::dG r p q ε.1::bW q p ε.2.1::bp p ε.2.2::S):=by
 refine Call.of_wp (hT.free _ rfl) Tryz.func106 rfl rfl (zK 8 rfl (az.any rfl rfl rfl (OpR.invoke rfl rfl rfl Fq rfl (C4 (n:=n) hT s J hw I)) ?_))
 rintro v h ⟨e,b,ε,hr,(⟨he,rfl,s⟩ | ⟨rfl,u,rfl,s⟩)⟩
 ·refine az.op rfl rfl rfl (b_ rfl) ?_
  exact zk 10 rfl (WP.ret ⟨aa,_,rfl,e,b,ε,hr,rfl,s⟩)
 ·skip
  exact zk 11 rfl (WP.ret ⟨aa,_,rfl,0,b,ε,hr,rfl,s.drop⟩)
theorem Jb (hT:W told){n:Int}(s:Sat h (fy g a now bI::dR a p q r op data bA::dG r p q π::bW q p μ::bp p δ::X::S))(hX:cI X (cL x b))(hb:b.length<9223372036854775808)(gT:ir (π,μ,δ))(hw:δ.waiting.length≤268435456)(J:∀e∈now,e.2.length=512):
  Call ⟨Tryz.prog,told⟩ 49 [.ptr g 0,.int .i64 n,x] h fun v h'=>∃(e:Int) (cg:List (Int×List Nat)) (ε:aF),qp (π,μ,δ) now bI n b e cg ε∧v=.int .i64 e ∧
   Sat h' (fy g a cg bI::dR a p q r op data bA::dG r p q ε.1::bW q p ε.2.1::bp p ε.2.2::X::S):=by
 refine Call.of_wp (hT.free _ rfl) Tryz.func49 rfl rfl (zK 8 rfl (zo rfl (qK rfl (nU j7 rfl)) (zm rfl (zc rfl (PZ (n:=n) hT s gT hw J) ?_))))
 rintro v h ⟨e,c,ε,hr,rfl,s⟩
 refine zk 5 rfl ?_
 by_cases he:e=0
 ·skip
  subst he
  refine zh rfl (ag rfl rfl aL) (rfl) (zk 7 rfl (zc rfl (Ff hT (s.ae [5]) hX hb) ?_))
  rintro v h ⟨rfl,s⟩
  refine zo rfl (eY rfl rfl) (zv ?_)
  by_cases I:bP b=true
  ·skip
   refine WP.Mb rfl (by rw [I]; rfl) ?_
   have TF:=gE I
   obtain ⟨nv,s⟩:=dn.1 (s.ae [1])
   have s:=s.ae [2,0,0]
   obtain ⟨su,rfl⟩:=CG s (j:=2) rfl
   refine zK 2 rfl ?_
   have s0:=s
   refine WP.drawn [some (0,2),some (0,2),some (0,2),some (0,2),some (0,2),ak,ak,ak] rfl (by kernel_rfl) (by kernel_rfl) ?_
   refine zM rfl (zN rfl (zF rfl (nC _ _) (zL rfl (s.ld (k:=1) rfl lM rfl) (zM rfl (zM rfl (aB.any rfl rfl rfl rfl (OpR.call rfl rfl rfl rfl (oO hT s hX (by omega))) ?_))))))
   intro u h s
   obtain ⟨jR,_,cap,_,rfl,_⟩:=s.eo (by omega)
   have s:=s.gR
   have s1:=s
   refine aB.jG rfl rfl rfl (OpR.mapUpdate rfl rfl rfl rfl (lT (f:=fun v b=>aq.cE v b) (x:=b) (fun _ _=>bn.cE _ _) (s.ae [0,2]) nY bN)) ?_
   intro w h s
   refine aB.nil ⟨⟨fun _ _=>.inr ⟨rfl,⟨_,b_ rfl⟩,bT _ rfl⟩,fun _ _=>.inr ⟨rfl,⟨_,sP rfl⟩,bT _ rfl⟩,fun _ _=>.inr ⟨rfl,⟨_,ny rfl (nC _ _)⟩,bT _ rfl⟩,fo (.inr ⟨rfl,⟨_,aO rfl (s0.ld (k:=1) rfl lM rfl)⟩,bT _ rfl⟩) (.inr ⟨rfl,⟨_,aO rfl (s1.ld (k:=2) rfl lM rfl)⟩,bT _ rfl⟩),fun _ _=>.inr ⟨rfl,⟨_,b_ rfl⟩,bT _ rfl⟩,aa,aa,aa,aa⟩,?_⟩
   exact zK 4 rfl (WP.ret ⟨aa,_,rfl,0,_,ε,.done c ε hr I,rfl,dn.2 ⟨.map su,s.ae [2,0,1,1,1,1,0]⟩⟩)
  ·have I:bP b=false:=by simpa using I
   refine WP.Gp rfl (by rw [I]; rfl) ?_
   exact zK 4 rfl (WP.ret ⟨aa,_,rfl,4,_,ε,.bad c ε hr I,rfl,s.ae [1,1,1,1,1,0]⟩)
 ·skip
  refine zt rfl (ag rfl rfl aL) (by simp; exact he) ?_
  exact zk 7 rfl (WP.ret ⟨aa,_,rfl,e,_,ε,.may e c ε hr he,rfl,s⟩)
theorem Jc (I:W told)(s:Sat h (fy g a now bI::dR a p q r (.ptr g 0) data bA::S)): Call ⟨Tryz.prog,told⟩ 60 [.ptr g 0] h fun v h'=>v=.aX []∧Sat h' (fy g a now true::dR a p q r .cN data bA::S):=by
 obtain ⟨J,s⟩:=dn.1 s
 obtain ⟨dv,s⟩:=cG.1 (s.ae [2])
 refine Call.of_wp (I.free _ rfl) Tryz.func60 rfl rfl (zK 4 rfl (zf rfl (vH _ _) ?_))
 refine zS rfl (by exact s.iw (k:=2) rfl wG rfl (by decide) rfl rfl) (fun h s => ?_)
 refine zk 5 rfl (zf rfl (mj _ _) (zl rfl (s.ld (k:=2) rfl ux rfl) (zn rfl (zf rfl (pJ _ _) (zl rfl (s.ld (k:=0) rfl Gq rfl) (zm rfl (zt rfl (ag rfl rfl (Ru j7 QT (by decide) (s.row (k:=2) rfl) (s.row (k:=2) rfl) (by decide) (by decide))) (dc g) ?_)))))))
 refine zk 5 rfl (zf rfl (mj _ _) (zl rfl (s.ld (k:=2) rfl ux rfl) (zn rfl (zf rfl (pJ _ _) ?_))))
 refine zS rfl (by exact s.iw (k:=0) rfl Pv rfl (by decide) rfl rfl) (fun h s => ?_)
 refine zv ?_
 have s:=dn.2 ⟨J,(cG.2 ⟨dv,s⟩).ae [1,1]⟩
 exact ⟨aa,_,rfl,rfl,s⟩
theorem Ef (I:W told)(s:Sat h (fy g a now bI::dR a p q r .cN data bA::S)): Call ⟨Tryz.prog,told⟩ 60 [.ptr g 0] h fun v h'=>v=.aX []∧Sat h' (fy g a now true::dR a p q r .cN data bA::S):=by
 obtain ⟨J,s⟩:=dn.1 s
 obtain ⟨dv,s⟩:=cG.1 (s.ae [2])
 dsimp only [bringA,getA,aZ] at s
 refine Call.of_wp (I.free _ rfl) Tryz.func60 rfl rfl (zK 4 rfl (zf rfl (vH _ _) ?_))
 refine zS rfl (by exact s.iw (k:=2) rfl wG rfl (by decide) rfl rfl) (fun h s => ?_)
 dsimp only [Fo,Nat.reduceAdd,List.set,setA] at s
 refine zv (zg rfl (zk 2 rfl (zf rfl (mj _ _) (zl rfl (by exact s.ld (k:=2) rfl ux rfl) ?_))))
 refine zn rfl (zf rfl (pJ _ _) (zl rfl (by exact s.ld (k:=0) rfl Gq rfl) ?_))
 refine zm rfl (zh rfl (ag rfl rfl (Rs j7)) (rfl) (zv (zj rfl (WP.skip ?_))))
 have s:=dn.2 ⟨J,(cG.2 ⟨dv,s⟩).ae [1,1]⟩
 exact ⟨aa,_,rfl,rfl,s⟩
theorem GW (I:W told)(s:Sat h (fy g a now bI::dR a p q r .cN data bA::S)): Call ⟨Tryz.prog,told⟩ 33 [.ptr g 0] h fun v h'=>v=.aX []∧Sat h' (fy g a now true::dR a p q r .cN data bA::S):=by
 refine Call.of_wp (I.free _ rfl) Tryz.func33 rfl rfl (zK 2 rfl (zc rfl (Ef I s) ?_))
 rintro v h ⟨rfl,s⟩
 exact zv ⟨aa,_,rfl,rfl,s⟩
end
end Go.Proofs.YtefepnnfphdkpaaGreat.Am
