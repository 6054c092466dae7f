/- ChainKept: a part of its proof; conditions: its statement's. -/
import Derived.Test.YtefepnnfphdkpaaGreatC23
import Derived.Test.YtefepnnfphdkpaaGreatC11
set_option linter.defProp false
namespace Go.Proofs.YtefepnnfphdkpaaGreat.Am
open Go
def j8:=@Tryz.underlying26
structure vx (ε:aF): Prop where
 pl:ε.1.Ok
 lg:ε.2.1.Ok
 dk:ε.2.2.Ok
theorem Mi {ε:aF}{i:Nat}(h:ε.1.Ok): (outF ε i).2.1.Ok:=by
 unfold outF
 split
 ·exact h
 ·rename_i f J
  have hm:=aY J
  split
  ·exact h
  ·split
   ·exact h
   ·split
    ·exact h
    ·split
     ·exact h
     ·refine ⟨by simp only [bQ]; exact h.hand,by simp only [bQ]; exact h.many,fun e he=>by simp only [bQ]; exact h.br e he,fun g I => ?_,fun g I => ?_⟩
      ·rcases kB I with I | rfl
       ·exact h.len g I
       ·exact h.len f hm
      ·rcases kB I with I | rfl
       ·exact h.pins g I
       ·exact h.pins f hm
theorem tU {ε:aF}{i:Nat}(h:vx ε): vx (outF ε i).2:=⟨Mi h.pl,Me h.lg,xT h.dk⟩
theorem E_ {δ:Dk}{n:Int}{b:List Nat}: (δ.cS n b).2.waiting.length≤δ.waiting.length+1:=by
 unfold Dk.cS
 split
 ·exact pY _
 ·split
  ·exact pY _
  ·split
   ·exact pY _
   ·exact Nat.le_of_eq (by simp [Dk.wr])
section
variable {told:cN} {h:H} {S:List aq} {X:aq} {r k q p bM:Nat} {v x wh di:V} {l b:List Nat} {π:Pl} {m:List Fm} {μ:Lg} {δ:Dk}
end
section
variable {told:cN} {h:H} {S:List aq} {X:aq} {r k q p bM:Nat} {v x wh di:V} {l b:List Nat} {π:Pl} {m:List Fm} {μ:Lg} {δ:Dk}
end
section
variable {C:b8} {ax:Nat} {E:List (Nat×V)} {h:H} {Q Q':Ex→List (Nat×V)→H→Prop} {a b:Code}
end
end Go.Proofs.YtefepnnfphdkpaaGreat.Am
namespace Go.Proofs.YtefepnnfphdkpaaGreat.Am
open Go
section
variable {h:H} {r iK since clock b:Nat} {seen:List Nat} {es:fJ}
end
open Classical in
noncomputable def lp (P:Program)(f:FuncId)(gG:List V→H→V×H→Prop)(args:List V)(h:H): Option (V×H) :=
 if I:∃r,gG args h r∧∀(c:Ctx) (w:World),Rel c h w→(∀x∈args,wf c x)→gm P f args c w r.1 r.2 then some I.choose else none
theorem B2 {P : Program} {f : FuncId} {gG : List V → H → V × H → Prop} (J : ∃ fn, P.funcs[f]? = some fn ∧ fn.body.isSome = true ∧ (fn.name == "runtime.NumGoroutine") = false) : FA P f (lp P f gG) := by
 refine .inl ⟨J, fun args σ v dM I c w h hw => ?_⟩
 unfold lp at I
 split at I
 ·rename_i hx
  have := hx.choose_spec.2 c w h hw
  injection I with I
  rw [I] at this
  exact this
 ·cases I
theorem B3 {P:Program}{f:FuncId}{gG:List V→H→V×H→Prop}{args:List V}{h:H}{r:V×H}(J:gG args h r)(h2:∀(c:Ctx) (w:World),Rel c h w→(∀x∈args,wf c x)→gm P f args c w r.1 r.2):
  ∃r,lp P f gG args h=some r∧gG args h r:=by
 have I:∃r,gG args h r∧∀(c:Ctx) (w:World),Rel c h w→(∀x∈args,wf c x)→gm P f args c w r.1 r.2:=⟨r,J,h2⟩
 refine ⟨I.choose,?_,I.choose_spec.1⟩
 unfold lp
 rw [dif_pos I]
noncomputable def mh (f:Nat): Option (List V→H→Option (V×H)) :=
 cond (Nat.beq f 61) (some (toldSorted wR)) (cond (Nat.beq f 178) (some toldMore) none)
noncomputable abbrev CB : b8:=⟨Tryz.prog,mh⟩
theorem Ae : Tryz.prog.follows .mixedOrders=true:=by kernel_rfl
theorem xU : fe CB:=by
 intro f g I
 simp only [CB,mh] at I ⊢
 by_cases h1:f=61
 ·subst h1
  rw [gY rfl,af] at I
  simp only [aj] at I
  subst I
  exact .inl ⟨⟨_,Tryz.func61,rfl,by decide⟩,fun args σ v J hr c w h _=>Cp bO JG hr h⟩
 ·rw [cT h1,ay] at I
  by_cases h2:f=178
  ·subst h2
   rw [gY rfl,af] at I
   simp only [aj] at I
   subst I
   exact .inl ⟨⟨_,yW,rfl,by decide⟩,fun args σ v J hr c w h hw=>EU (C:=CB) rfl Ae hr h hw⟩
  ·rw [cT h2,ay] at I
   cases I
theorem W.base : W mh:=by
 refine ⟨fun f I => ?_,rfl,rfl⟩
 have J:f≠61:=fun e=>by subst e; revert I; decide
 have h2:f≠178:=fun e=>by subst e; revert I; decide
 simp only [mh,cT J,cT h2,ay]
section
variable {P:Program} {h:H} {S:List aq} {k id off n:Nat} {cs:List V} {st:Bool} {v:V} {t:TypeId}
end
section
variable {told:cN} {h:H} {S:List aq} {X:aq} {r k q p bM:Nat} {v x wh di:V} {l b:List Nat} {π:Pl} {m:List Fm} {μ:Lg} {δ:Dk}
end
section
variable {told:cN} {h:H} {S:List aq} {X:aq} {r k q p bM:Nat} {v x wh di:V} {l b:List Nat} {π:Pl} {m:List Fm} {μ:Lg} {δ:Dk}
end
section
variable {told:cN} {h:H} {S:List aq} {X:aq} {r k q p bM:Nat} {v x wh di:V} {l b:List Nat} {π:Pl} {m:List (Int×(Nat×Bool))} {μ:Lg} {δ:Dk}
end
theorem eN.ah {π I:Pl}(J:eN π I): ∀g∈I.ah,∃f∈π.ah,∃t,g={ f with dK:=t }:=by
 intro g hg
 obtain ⟨i,hi,rfl⟩:=List.mem_iff_getElem.1 hg
 have hf:π.ah[i]?=some (π.ah[i]'(by rw [←J.len]; exact hi)):=aN _
 obtain ⟨t,ht⟩:=J.get i _ hf
 rw [aN hi] at ht
 exact ⟨_,pR _,t,bI ht⟩
theorem eN.ok {π I:Pl}(J:eN π I)(h:π.Ok)(hh:I.hand<I.ah.length): I.Ok:=by
 refine ⟨hh,by rw [J.len]; exact h.many,by rw [J.br,J.len]; exact h.br,fun g hg => ?_,fun g hg => ?_⟩
 ·obtain ⟨f,hf,t,rfl⟩:=J.ah g hg
  exact h.len f hf
 ·obtain ⟨f,hf,t,rfl⟩:=J.ah g hg
  exact h.pins f hf
theorem Pl.Ok.set {π:Pl}{i:Nat}{f:Fm}{w:List (Int×Int)}{d:List (Int×(Nat×Bool))}(h:π.Ok)(hw:∀e∈w,0≤e.2∧e.2<π.ah.length)(J:f.b.length≤512)(hp:0≤f.pins∧f.pins≤4294967296): Pl.Ok { π with ah:=π.ah.set i f,br:=w,b_:=d }:=by
 refine ⟨by simp only [bQ]; exact h.hand,by simp only [bQ]; exact h.many,fun e he=>by simp only [bQ]; exact hw e he,fun g I => ?_,fun g I => ?_⟩
 ·rcases kB I with I | rfl
  ·exact h.len g I
  ·exact J
 ·rcases kB I with I | rfl
  ·exact h.pins g I
  ·exact hp
theorem O_ {α:Type}{n:Int}: ∀ {l:List (Int×α)} {e:Int×α},e∈kG n l→e∈l:=by
 intro l
 induction l with
 | nil=>intro e h; exact h
 | cons x l I =>
  intro e h
  simp only [kG] at h
  split at h
  ·exact cj _ h
  ·rcases List.mem_cons.1 h with rfl | h
   ·exact cz
   ·exact cj _ (I h)
theorem Pa {α:Type}{n:Int}{x:α}: ∀ {l:List (Int×α)} {e:Int×α},e∈dg n x l→e=(n,x)∨e∈l:=by
 intro l
 induction l with
 | nil=>intro e h; simp only [dg,sq] at h; exact .inl h
 | cons y l I =>
  intro e h
  simp only [dg] at h
  split at h
  ·rcases List.mem_cons.1 h with rfl | h
   ·exact .inl rfl
   ·exact .inr (cj _ h)
  ·rcases List.mem_cons.1 h with rfl | h
   ·exact .inr cz
   ·rcases I h with h | h
    ·exact .inl h
    ·exact .inr (cj _ h)
theorem xV {π:Pl}{i:Nat}{f:Fm}(h:π.Ok): (cK π i f).Ok:=by
 unfold cK
 refine h.set (fun e he => ?_) (by simp [dH]) (by simp [dH])
 split at he
 ·exact h.br e he
 ·exact h.br e (O_ he)
theorem eO.ok {ε ε':aF}{n e:Int}{b:List Nat}(hr:eO ε n e b ε')(h:vx ε)(hp:∀f∈ε.1.ah,f.pins=0): vx ε':=by
 cases hr with
 | arg _=>exact h
 | Ab i f h1 h2 hl hf =>
  have hm:=aY hf
  exact ⟨h.pl.set h.pl.br (h.pl.len f hm) (by have:=hp f hm; simp only; omega),h.lg,h.dk⟩
 | out I i f h1 h2 hl J hf hh he=>exact tU (ε:=(I,ε.2)) ⟨J.ok h.pl hh,h.lg,h.dk⟩
 | read I i f h1 h2 hl J hf hh he hr =>
  have:=tU (i:=i) (ε:=(I,ε.2)) ⟨J.ok h.pl hh,h.lg,h.dk⟩
  exact ⟨xV this.pl,this.lg,this.dk⟩
 | bad I i f h1 h2 hl J hf hh he hr hc =>
  have:=tU (i:=i) (ε:=(I,ε.2)) ⟨J.ok h.pl hh,h.lg,h.dk⟩
  exact ⟨xV this.pl,this.lg,this.dk⟩
 | load I i f h1 h2 hl J hf hh he hr hc =>
  have:=tU (i:=i) (ε:=(I,ε.2)) ⟨J.ok h.pl hh,h.lg,h.dk⟩
  have h3:=xV (i:=i) (f:=f) this.pl
  have hlen:i<(cK (outF (I,ε.2) i).2.1 i f).ah.length:=by
   obtain ⟨c,hc⟩:=lP (ε:=(I,ε.2)) hf
   have:=(List.getElem?_eq_some_iff.1 hc).1
   simpa [cK] using this
  refine ⟨h3.set (fun e he => ?_) (by simp only; rw [this.dk.at]; omega) (by simp),this.lg,this.dk⟩
  rcases Pa he with rfl | he
  ·simp only; omega
  ·exact h3.br e he
theorem B4 {π:Pl}{n:Int}(h:π.Ok): (unpinF π n).2.Ok:=by
 unfold unpinF
 split
 ·exact h
 ·rename_i i hi
  split
  ·exact h
  ·rename_i f I
   have hm:=aY I
   refine h.set h.br (h.len f hm) ?_
   have:=h.pins f hm
   have J:f.pins≠0:=by
    unfold heldI at hi
    split at hi
    ·cases hi
    ·split at hi
     ·cases hi
     ·rename_i g hg
      split at hi
      ·cases hi
      ·rename_i hp
       have:=bI hi
       subst this
       rw [hg] at I
       have:=bI I
       subst this
       exact hp
   simp only; omega
inductive kK (ε:aF)(n:Int): Int→List Nat→aF→Prop where
 | dead (h:ε.2.2.dead=true):kK ε n 9 [] ε
 | gG (e:Int) (b:List Nat) (ε':aF) (h:ε.2.2.dead=false) (hr:eO ε n e b ε') (he:e≠0):kK ε n e [] ε'
 | pK (b:List Nat) (ε':aF) (h:ε.2.2.dead=false) (hr:eO ε n 0 b ε') (he:(unpinF ε'.1 n).1≠0):kK ε n (unpinF ε'.1 n).1 [] ((unpinF ε'.1 n).2,ε'.2)
 | read (b:List Nat) (ε':aF) (h:ε.2.2.dead=false) (hr:eO ε n 0 b ε') (he:(unpinF ε'.1 n).1=0):kK ε n 0 b ((unpinF ε'.1 n).2,ε'.2)
theorem kK.ok {ε ε':aF}{n e:Int}{b:List Nat}(I:kK ε n e b ε')(h:vx ε)(J:∀f∈ε.1.ah,f.pins=0): vx ε':=by
 cases I with
 | dead _=>exact h
 | gG e b ε' hd I he=>exact I.ok h J
 | pK b ε' hd I he=>have:=I.ok h J; exact ⟨B4 this.pl,this.lg,this.dk⟩
 | read b ε' hd I he=>have:=I.ok h J; exact ⟨B4 this.pl,this.lg,this.dk⟩
def Gg (a p q r:Nat)(op dv:V)(bz:Nat): List V:=[.ptr p 0,.ptr q 0,.ptr r 0,op,dv,.int .u64 (bz:Int)]
def ej (a p q r:Nat)(op:V)(data:List Nat)(bz:Nat): aq:=xs fun dv:V=>star [pt a (.cells 6 (Gg a p q r op dv bz) false),.cu dv data]
def fK (g a:Nat)(now:List (Int×List Nat))(bK:Bool): aq:=xs fun I:V=>star [pt g (.cells 3 [.ptr a 0,I,.bool bK] false),ja (fun v b=>.cu v b) I now]
section
variable {told:cN} {h:H} {S:List aq} {X:aq} {r k q p bM a g bz:Nat} {op v x wh di:V} {l b data:List Nat} {π:Pl} {m:List Fm} {μ:Lg} {δ:Dk} {now:List (Int×List Nat)} {bK:Bool}
theorem cQ : Sat h (ej a p q r op data bz::S)↔∃dv,Sat h (pt a (.cells 6 (Gg a p q r op dv bz) false)::.cu dv data::S):=by
 simp only [ej,j4,c6,gK,cV]
theorem dA : Sat h (fK g a now bK::S)↔∃I,Sat h (pt g (.cells 3 [.ptr a 0,I,.bool bK] false)::ja (fun v b=>.cu v b) I now::S):=by
 simp only [fK,j4,c6,gK,cV]
theorem xW (hT:W told){n:Int}(s:Sat h (ej a p q r op data bz::dL r p q π::b7 q p μ::bx p δ::S))(I:vx (π,μ,δ))(J:∀f∈π.ah,f.pins=0)(hw:δ.waiting.length≤268435456):
  Call ⟨Tryz.prog,told⟩ 113 [.ptr a 0,.int .i64 n] h fun v h'=>∃(e:Int) (b:List Nat) (ε:aF),kK (π,μ,δ) n e b ε ∧
   ((e≠0∧v=.bh [.bp,.int .i64 e]∧Sat h' (ej a p q r op data bz::dL r p q ε.1::b7 q p ε.2.1::bx p ε.2.2::S)) ∨
    (e=0∧∃u,v=.bh [u,.int .i64 0]∧Sat h' (aR u b::ej a p q r op data bz::dL r p q ε.1::b7 q p ε.2.1::bx p ε.2.2::S))):=by
 have s0:=s
 obtain ⟨dv,s⟩:=cQ.1 s
 refine Call.of_wp (hT.free _ rfl) Tryz.func113 rfl rfl (zK 10 rfl (zf rfl (wG _ _) (zl rfl (s.ld (k:=0) rfl rY rfl) (zc rfl (Dx hT (s.ae [4])) ?_))))
 rintro v h ⟨rfl,rfl⟩
 refine zv ?_
 cases hd:δ.dead with
 | true =>
  exact zK 6 rfl (WP.ret ⟨aa,_,rfl,9,[],_,.dead hd,.inl ⟨by decide,rfl,s0⟩⟩)
 | false =>
  refine zK 6 rfl (zf rfl (qd _ _) (zl rfl (s.ld (k:=0) rfl wF rfl) (zm rfl (zc rfl (J5 (n:=n) hT (s.ae [2,2,2]) I.pl J I.lg I.dk hw) ?_))))
  rintro v h ⟨e,b,ε,hr,(⟨he,rfl,s⟩ | ⟨rfl,u,rfl,s⟩)⟩
  ·dsimp only [bringA,getA,aV] at s
   refine zk 10 rfl (zt rfl (ag rfl rfl aJ) (by simp; exact he) ?_)
   exact zk 8 rfl (WP.ret ⟨aa,_,rfl,e,[],ε,.gG e b ε hd hr he,.inl ⟨he,rfl,cQ.2 ⟨dv,s.ae [3,3,0,0,0]⟩⟩⟩)
  ·dsimp only [bringA,getA,aV] at s
   refine zk 10 rfl (zh rfl (ag rfl rfl aJ) (rfl) ?_)
   have s:=s.ae [4,4,0,0,0,0]
   refine zk 8 rfl (zf rfl (qd _ _) (zl rfl (s.ld (k:=0) rfl wF rfl) (zm rfl ?_)))
   have vp:=hr.ok I J
   refine zc rfl (DM (n:=n) hT (s.ae [3]) vp.pl) ?_
   rintro v h ⟨rfl,s⟩
   refine zk 5 rfl ?_
   by_cases he:(unpinF ε.1 n).1=0
   ·skip
    refine zh rfl (ag rfl rfl aJ) (by simp; exact he) ?_
    exact zk 9 rfl (WP.ret ⟨aa,_,rfl,0,b,_,.read b ε hd hr he,.inr ⟨rfl,u,rfl,(cQ.2 ⟨dv,s.ae [1,1,0,1,1,0]⟩).ae [4,0,0,0,0]⟩⟩)
   ·skip
    refine zt rfl (ag rfl rfl aJ) (by simp; exact he) ?_
    exact zk 8 rfl (WP.ret ⟨aa,_,rfl,_,[],_,.pK b ε hd hr he,.inl ⟨he,rfl,(cQ.2 ⟨dv,(s.ae [1,1,0,1,1,0]).del 5⟩)⟩⟩)
end
structure Pl.Full (π:Pl): Prop where
 nodup:(π.br.map (·.1)).Nodup
 lq:∀n i,lookL n π.br=some i→0≤n∧∃f,π.ah[i.toNat]?=some f∧f.bf=n∧f.b.length=512
structure iJ (ε:aF): Prop where
 ok:vx ε
 pins:∀f∈ε.1.ah,f.pins=0
 full:ε.1.Full
theorem Pl.Full.set {π:Pl}{i:Nat}{f g:Fm}{d:List (Int×(Nat×Bool))}(h:π.Full)(hf:π.ah[i]?=some f)(hp:g.bf=f.bf)(hl:f.b.length=512→g.b.length=512): Pl.Full { π with ah:=π.ah.set i g,b_:=d }:=by
 refine ⟨h.nodup,fun n j hj => ?_⟩
 obtain ⟨h1,f',J,h3,h4⟩:=h.lq n j hj
 refine ⟨h1,?_⟩
 by_cases I:i=j.toNat
 ·subst I
  rw [hf] at J
  have:=bI J
  subst this
  exact ⟨g,gH (List.getElem?_eq_some_iff.1 hf).1,hp.trans h3,hl h4⟩
 ·exact ⟨f',by simp only [fT I]; exact J,h3,h4⟩
theorem eN.full {π I:Pl}(J:eN π I)(h:π.Full): I.Full:=by
 refine ⟨by rw [J.br]; exact h.nodup,fun n j hj => ?_⟩
 rw [J.br] at hj
 obtain ⟨h1,f',h2,h3,h4⟩:=h.lq n j hj
 obtain ⟨t,ht⟩:=J.get _ _ h2
 exact ⟨h1,_,ht,h3,h4⟩
theorem rK {ε:aF}{i:Nat}(h:ε.1.Full): (outF ε i).2.1.Full:=by
 unfold outF
 split
 ·exact h
 ·rename_i f I
  split
  ·exact h
  ·split
   ·exact h
   ·split
    ·exact h
    ·split
     ·exact h
     ·exact h.set I rfl fun J=>J
theorem tV {π:Pl}{i:Nat}{f g:Fm}(h:π.Full)(hg:π.ah[i]?=some g)(hp:g.bf=f.bf): (cK π i f).Full∧∀n j,lookL n (cK π i f).br=some j→j.toNat≠i:=by
 have key:∀n j,lookL n (cK π i f).br=some j→lookL n π.br=some j∧j.toNat≠i:=by
  intro n j I
  by_cases hf:f.bf<0
  ·have hw:(cK π i f).br=π.br:=by simp only [cK,au hf]
   rw [hw] at I
   refine ⟨I,fun hi => ?_⟩
   obtain ⟨h1,f',J,h3,_⟩:=h.lq n j I
   rw [hi,hg] at J
   have:=bI J
   subst this
   omega
  ·have hw:(cK π i f).br=kG f.bf π.br:=by simp only [cK,ai hf]
   rw [hw,BV h.nodup] at I
   by_cases hn:f.bf=n
   ·rw [au hn] at I; cases I
   ·rw [ai hn] at I
    refine ⟨I,fun hi => ?_⟩
    obtain ⟨h1,f',J,h3,_⟩:=h.lq n j I
    rw [hi,hg] at J
    have:=bI J
    subst this
    omega
 refine ⟨⟨?_,fun n j I => ?_⟩,fun n j I=>(key n j I).2⟩
 ·unfold cK
  simp only
  split
  ·exact h.nodup
  ·exact tQ h.nodup
 ·obtain ⟨h1,J⟩:=key n j I
  obtain ⟨h3,f',h4,h5,h6⟩:=h.lq n j h1
  exact ⟨h3,f',by simp only [cK,fT (iS J)]; exact h4,h5,h6⟩
theorem Fa {π:Pl}{i:Nat}{n:Int}{b:List Nat}(h:π.Full)(hi:i<π.ah.length)(J:∀n j,lookL n π.br=some j→j.toNat≠i)(hn:0≤n)(hb:b.length=512): (ic π i n b).Full:=by
 refine ⟨kq h.nodup,fun m j I => ?_⟩
 simp only [ic,oF] at I
 by_cases hm:n=m
 ·rw [au hm] at I
  have:=bI I
  subst this; subst hm
  exact ⟨hn,⟨n,b,1,true,false⟩,gH hi,rfl,hb⟩
 ·rw [ai hm] at I
  obtain ⟨h3,f',h4,h5,h6⟩:=h.lq m j I
  exact ⟨h3,f',by simp only [ic,fT (iS (J m j I))]; exact h4,h5,h6⟩
theorem eO.full {ε ε':aF}{n e:Int}{b:List Nat}(hr:eO ε n e b ε')(hd:ε.2.2.Ok)(h:ε.1.Full): ε'.1.Full∧(e=0→b.length=512):=by
 cases hr with
 | arg _=>exact ⟨h,fun h=>(by cases h)⟩
 | Ab i f h1 h2 hl hf =>
  refine ⟨h.set hf rfl fun hl=>hl,fun _ => ?_⟩
  obtain ⟨_,f',h4,_,h6⟩:=h.lq n i hl
  rw [ck,hf] at h4
  have:=bI h4
  subst this
  exact h6
 | out I i f h1 h2 hl hn hf hh he=>exact ⟨rK (ε:=(I,ε.2)) (hn.full h),fun h=>absurd h he⟩
 | read I i f h1 h2 hl hn hf hh he hr =>
  obtain ⟨c,J⟩:=lP (ε:=(I,ε.2)) hf
  exact ⟨(tV (f:=f) (rK (ε:=(I,ε.2)) (hn.full h)) J rfl).1,fun h=>absurd h hr⟩
 | bad I i f h1 h2 hl hn hf hh he hr hc =>
  obtain ⟨c,J⟩:=lP (ε:=(I,ε.2)) hf
  exact ⟨(tV (f:=f) (rK (ε:=(I,ε.2)) (hn.full h)) J rfl).1,fun h=>absurd h hc⟩
 | load I i f h1 h2 hl hn hf hh he hr hc =>
  obtain ⟨c,J⟩:=lP (ε:=(I,ε.2)) hf
  have hi:=(List.getElem?_eq_some_iff.1 J).1
  obtain ⟨k1,k2⟩:=tV (f:=f) (rK (ε:=(I,ε.2)) (hn.full h)) J rfl
  have xA:=(xT (ε:=(I,ε.2)) (i:=i) hd).at n
  exact ⟨Fa k1 (by simp only [cK,bQ]; exact hi) k2 h1 xA,fun _=>xA⟩
theorem xB {π:Pl}{n:Int}(h:π.Full): (unpinF π n).2.Full:=by
 unfold unpinF
 split
 ·exact h
 ·split
  ·exact h
  ·rename_i f I
   exact h.set I rfl fun J=>J
theorem eN.pins {π I:Pl}(J:eN π I)(h:∀f∈π.ah,f.pins=0): ∀f∈I.ah,f.pins=0:=fun g hg=>by
 obtain ⟨f,hf,t,rfl⟩:=J.ah g hg
 exact h f hf
theorem rL {ε:aF}{i:Nat}(h:∀f∈ε.1.ah,f.pins=0): ∀f∈(outF ε i).2.1.ah,f.pins=0:=by
 unfold outF
 split
 ·exact h
 ·rename_i f J
  have hm:=aY J
  split
  ·exact h
  ·split
   ·exact h
   ·split
    ·exact h
    ·split
     ·exact h
     ·intro g I
      rcases kB I with I | rfl
      ·exact h g I
      ·exact h f hm
theorem tW {π:Pl}{i:Nat}{f:Fm}(h:∀f∈π.ah,f.pins=0): ∀f∈(cK π i f).ah,f.pins=0:=by
 intro g I
 rcases kB I with I | rfl
 ·exact h g I
 ·rfl
theorem eO.Gh {ε ε':aF}{n e:Int}{b:List Nat}(hr:eO ε n e b ε')(he:e≠0)(hp:∀f∈ε.1.ah,f.pins=0): ∀f∈ε'.1.ah,f.pins=0:=by
 cases hr with
 | arg _=>exact hp
 | Ab i f h1 h2 hl hf=>exact absurd rfl he
 | out I i f h1 h2 hl J hf hh he=>exact rL (ε:=(I,ε.2)) (J.pins hp)
 | read I i f h1 h2 hl J hf hh he hr=>exact tW (f:=f) (rL (ε:=(I,ε.2)) (J.pins hp))
 | bad I i f h1 h2 hl J hf hh he hr hc=>exact tW (f:=f) (rL (ε:=(I,ε.2)) (J.pins hp))
 | load I i f h1 h2 hl J hf hh he hr hc=>exact absurd rfl he
theorem DN {m:List Fm}{i:Nat}{f g:Fm}(h:∀f∈m,f.pins=0)(J:g.pins=0): ∀x∈(m.set i f).set i g,x.pins=0:=by
 intro x I
 rw [we] at I
 rcases kB I with I | rfl
 ·exact h x I
 ·exact J
theorem qM {π:Pl}{n:Int}{i:Nat}{f:Fm}(hl:lookL n π.br=some (i:Int))(I:π.ah[i]?=some f)(J:f.pins=1): heldI π n=some i∧unpinF π n=(0,{ π with ah:=π.ah.set i { f with pins:=0 } }):=by
 have h1:heldI π n=some i:=by
  simp only [heldI,hl,ck,I,J]
  rfl
 refine ⟨h1,?_⟩
 simp only [unpinF,h1,I,J]
 rfl
theorem Mj {α:Type}{n:Int}{x:α}{l:List (Int×α)}: lookL n (dg n x l)=some x:=by rw [oF,au rfl]
theorem eO.at {ε ε':aF}{n:Int}{b:List Nat}(hr:eO ε n 0 b ε')(hp:∀f∈ε.1.ah,f.pins=0):
  ∃(i:Nat) (f:Fm),lookL n ε'.1.br=some (i:Int)∧ε'.1.ah[i]?=some f∧f.pins=1∧f.b=b∧∀g:Fm,g.pins=0→∀x∈ε'.1.ah.set i g,x.pins=0:=by
 generalize J:(0:Int)=e at hr
 cases hr with
 | arg _=>cases J
 | Ab i f h1 h2 hl hf =>
  have hi:=(List.getElem?_eq_some_iff.1 hf).1
  refine ⟨i,{ f with dK:=true,pins:=f.pins+1 },hl,by simp [hi],by have:=hp f (aY hf); show f.pins+1=1; omega,rfl,fun g hg=>DN hp hg⟩
 | out I i f h1 h2 hl hn hf hh he=>exact absurd J.symm he
 | read I i f h1 h2 hl hn hf hh he hr=>exact absurd J.symm hr
 | bad I i f h1 h2 hl hn hf hh he hr hc=>exact absurd J.symm hc
 | load I i f h1 h2 hl hn hf hh he hr hc =>
  obtain ⟨c,TM⟩:=lP (ε:=(I,ε.2)) hf
  have hi:=(List.getElem?_eq_some_iff.1 TM).1
  refine ⟨i,⟨n,_,1,true,false⟩,Mj,gH (by show i<(List.set _ i _).length; rw [bQ]; exact hi),rfl,rfl,fun g hg=>DN (tW (f:=f) (rL (ε:=(I,ε.2)) (hn.pins hp))) hg⟩
theorem eO.xX {ε ε':aF}{n:Int}{b:List Nat}(I:eO ε n 0 b ε')(J:∀f∈ε.1.ah,f.pins=0): (unpinF ε'.1 n).1=0∧∀f∈(unpinF ε'.1 n).2.ah,f.pins=0:=by
 obtain ⟨i,f,h1,h2,h3,h4,h5⟩:=I.at J
 rw [(qM h1 h2 h3).2]
 exact ⟨rfl,h5 _ rfl⟩
theorem kK.l_ {ε ε':aF}{n e:Int}{b:List Nat}(I:kK ε n e b ε')(h:iJ ε): iJ ε':=by
 refine ⟨I.ok h.ok h.pins,?_,?_⟩
 ·cases I with
  | dead _=>exact h.pins
  | gG e b ε' hd I he=>exact I.Gh he h.pins
  | pK b ε' hd I he=>exact (I.xX h.pins).2
  | read b ε' hd I he=>exact (I.xX h.pins).2
 ·cases I with
  | dead _=>exact h.full
  | gG e b ε' hd I he=>exact (I.full h.ok.dk h.full).1
  | pK b ε' hd I he=>exact xB (I.full h.ok.dk h.full).1
  | read b ε' hd I he=>exact xB (I.full h.ok.dk h.full).1
theorem kK.len {ε ε':aF}{n:Int}{b:List Nat}(J:kK ε n 0 b ε')(h:iJ ε): b.length=512:=by
 generalize I:(0:Int)=e at J
 cases J with
 | dead _=>cases I
 | gG e b ε' hd J he=>exact absurd I.symm he
 | pK b ε' hd J he=>exact absurd I.symm he
 | read b ε' hd J he=>exact (J.full h.ok.dk h.full).2 rfl
inductive mS (ε:aF)(now:List (Int×List Nat))(bK:Bool)(n:Int): Int→List Nat→aF→Prop where
 | arg (h:¬(0≤n∧n<ε.2.2.bg.length)):mS ε now bK n 1 [] ε
 | bK (h1:0≤n) (h2:n<ε.2.2.bg.length) (h:bK=true):mS ε now bK n 18 [] ε
 | own (b:List Nat) (h1:0≤n) (h2:n<ε.2.2.bg.length) (h:bK=false) (hl:lookL n now=some b):mS ε now bK n 0 b ε
 | read (e:Int) (b:List Nat) (ε':aF) (h1:0≤n) (h2:n<ε.2.2.bg.length) (h:bK=false) (hl:lookL n now=none) (hr:kK ε n e b ε'):mS ε now bK n e b ε'
theorem mS.l_ {ε ε':aF}{now:List (Int×List Nat)}{bK:Bool}{n e:Int}{b:List Nat}(I:mS ε now bK n e b ε')(h:iJ ε): iJ ε':=by
 cases I with
 | arg _=>exact h
 | bK _ _ _=>exact h
 | own _ _ _ _ _=>exact h
 | read e b ε' J h2 h3 hl I=>exact I.l_ h
theorem OpR.invoke {C:b8}{E:List (Nat×V)}{h:H}{o:Oper}{cl:Go.Call}{x:Operand}{m:String}{t:TypeId}{u:V}{k:FuncId}{args:List V}{R:V→H→Prop}(J:o.op=.call cl)(hc:cl.callee=.invoke x m)
 (hx:lookO E x=some (.iface t u))(hm:methV C.P t m=some k)(ha:lookArgs E cl.args.toList=some args)(I:Am.Call C k (u::args) h R): OpR C E h o R:=by
 obtain ⟨v,h₁,⟨N,hN⟩,hr⟩:=I
 exact ⟨v,h₁,hr,fun env hE=>⟨N,by simp only [evOp,J,evCall,jE hE ha,hc,bG hE hx,hm]; exact hN⟩⟩
theorem Gi : methV Tryz.prog 26 "Read" = some 76 := by kernel_rfl
theorem Pb : methV Tryz.prog 24 "Read" = some 113 := by kernel_rfl
theorem S8 {h:H}{t e:TypeId}{x y:Operand}(hu:Tryz.prog.underlying t=some (.pointer e)): binV Tryz.prog h .neq t x y .cU .cU=some (.bool false):=by simp only [binV,eqV,hu]; rfl
theorem tX {h:H}{t e:TypeId}{x y:Operand}{i o:Nat}(hu:Tryz.prog.underlying t=some (.pointer e)): binV Tryz.prog h .eql t x y (.ptr i o) .cU=some (.bool false):=by simp only [binV,eqV,hu]; rfl
theorem S9 {h:H}{t e:TypeId}{x y:Operand}{i o:Nat}(hu:Tryz.prog.underlying t=some (.pointer e)): binV Tryz.prog h .eql t x y .cU (.ptr i o)=some (.bool false):=by simp only [binV,eqV,hu]; rfl
theorem S_ {h:H}{t e k:TypeId}{x y:Operand}{i j n m:Nat}{cs ds:List V}(hu:Tryz.prog.underlying t=some (.pointer e))(I:bj Tryz.prog e=some k)(J:1≤k)(hi:T.get h.tr i=some (.cells n cs false))(hj:T.get h.tr j=some (.cells m ds false))(hn:1≤n)(hm:1≤m):
  binV Tryz.prog h .eql t x y (.ptr i 0) (.ptr j 0)=some (.bool (Nat.beq i j)):=by
 simp only [binV,eqV,hu,I,aE.2 J,af,hi,hj,aE.2 hn,aE.2 hm,gB,c_,Bool.and_true,ig]
section
variable {told:cN} {h:H} {S:List aq} {X:aq} {r k q p bM a g bz:Nat} {op v x wh di:V} {l b data:List Nat} {π:Pl} {m:List Fm} {μ:Lg} {δ:Dk} {now:List (Int×List Nat)} {bK:Bool}
theorem B5 (I:W told)(s:Sat h (ej a p q r .cU data bz::S)): Call ⟨Tryz.prog,told⟩ 45 [.ptr a 0] h fun v h'=>∃g,v=.bh [.ptr g 0,.int .i64 0]∧Sat h' (fK g a [] false::ej a p q r (.ptr g 0) data bz::S):=by
 obtain ⟨dv,s⟩:=cQ.1 s
 refine Call.of_wp (I.free _ rfl) Tryz.func45 rfl rfl (zK 10 rfl (zf rfl (qf _ _) (zl rfl (s.ld (k:=0) rfl Hq rfl) (zh rfl (ag rfl rfl (S8 j8)) (rfl) (zk 7 rfl ?_)))))
 refine az.A_ s rfl rfl rfl rfl (fun J h s => ?_)
 refine zo rfl (cW rfl (by rw [Sy]; rfl)) ?_
 refine az.cG s rfl rfl rfl (fO rfl rfl) (fun Y4 h s => ?_)
 refine zn rfl (zf rfl (qf _ _) ?_)
 refine zS rfl (by exact s.iF (k:=2) rfl Q6 rfl (by decide) rfl rfl) (fun h s => ?_)
 refine zk 5 rfl (zf rfl (qf _ _) (zl rfl (s.ld (k:=2) rfl Hq rfl) (zk 3 rfl (WP.ret ⟨aa,_,rfl,?_⟩))))
 have s1:=qG (f:=fun v (b:List Nat)=>.cu v b) (s.ae [1])
 have s:=dA.2 ⟨_,s1.ae [1]⟩
 exact ⟨_,rfl,(cQ.2 ⟨dv,s.ae [1,1,0]⟩).ae [1]⟩
theorem DO (hT:W told){n:Int}(s:Sat h (fK g a now bK::ej a p q r op data bz::dL r p q π::b7 q p μ::bx p δ::S))(fq:iJ (π,μ,δ))(hw:δ.waiting.length≤268435456)(tY:∀e∈now,e.2.length=512):
  Call ⟨Tryz.prog,told⟩ 76 [.ptr g 0,.int .i64 n] h fun v h'=>∃(e:Int) (b:List Nat) (ε:aF),mS (π,μ,δ) now bK n e b ε ∧
   ((e≠0∧v=.bh [.bp,.int .i64 e]∧Sat h' (fK g a now bK::ej a p q r op data bz::dL r p q ε.1::b7 q p ε.2.1::bx p ε.2.2::S)) ∨
    (e=0∧∃u,v=.bh [u,.int .i64 0]∧Sat h' (aR u b::fK g a now bK::ej a p q r op data bz::dL r p q ε.1::b7 q p ε.2.1::bx p ε.2.2::S))):=by
 have s0:=s
 obtain ⟨nv,s⟩:=dA.1 s
 obtain ⟨dv,s⟩:=cQ.1 (s.ae [2])
 dsimp only [bringA,getA,aV] at s
 refine Call.of_wp (hT.free _ rfl) Tryz.func76 rfl rfl (zK 6 rfl (WP.block (zK 3 rfl ?_)))
 refine zd rfl (ag rfl rfl aP) ?_ ?_
 ·intro J
  have J:n<0:=by simpa using J
  exact zk 20 rfl (WP.ret ⟨aa,_,rfl,1,[],_,.arg (by simp only; omega),.inl ⟨by decide,rfl,s0⟩⟩)
 ·intro J
  have J:0≤n:=by simp at J; omega
  refine zk 4 rfl (zf rfl (mM _ _) (zl rfl (s.ld (k:=2) rfl va rfl) (zn rfl (zf rfl (wG _ _) (zl rfl (s.ld (k:=0) rfl rY rfl) (zc rfl (xR hT (s.ae [6])) ?_))))))
  rintro v h ⟨rfl,rfl⟩
  refine zd rfl (ag rfl rfl u_) ?_ ?_
  ·intro I
   have I:(δ.bg.length:Int)≤n:=by simpa using I
   exact zk 9 rfl (WP.ret ⟨aa,_,rfl,1,[],_,.arg (by simp only; omega),.inl ⟨by decide,rfl,s0⟩⟩)
  ·intro I
   have I:n<(δ.bg.length:Int):=by simp at I; omega
   refine zk 8 rfl (zf rfl (wE _ _) ?_)
   cases bK with
   | true =>
    exact zt rfl (aU rfl (s.ld (k:=2) rfl nD rfl)) (rfl) (zk 8 rfl (WP.ret ⟨aa,_,rfl,18,[],_,.bK J I rfl,.inl ⟨by decide,rfl,s0⟩⟩))
   | false =>
    refine zh rfl (aU rfl (by exact s.ld (k:=2) rfl nD rfl)) (rfl) ?_
    refine za rfl (zv (zj rfl (WP.skip (zw (zg rfl (zk 2 rfl (zf rfl (n_ _ _) (zl rfl (by exact s.ld (k:=2) rfl me rfl) ?_))))))))
    refine zm rfl ?_
    rcases mP (n:=n) (fun _ _=>aS.cu _ _) (s.ae [3]) oH bO n4 with ⟨g1,g2,_⟩ | ⟨u,b,g1,g2,_,s2⟩
    ·refine az.op rfl rfl rfl (iZ rfl rfl g2) ?_
     refine zk 5 rfl (zv (zg rfl (zm rfl (zv (zj rfl (WP.skip (zg rfl (zk 2 rfl (zf rfl (mM _ _) (zl rfl (by exact s.ld (k:=2) rfl va rfl) ?_))))))))))
     refine zm rfl (zc rfl (xW (n:=n) hT (s0.ae [1,1,1,1]) fq.ok fq.pins hw) ?_)
     rintro v h ⟨e,b,ε,hr,(⟨he,rfl,s⟩ | ⟨rfl,u,rfl,s⟩)⟩
     ·dsimp only [bringA,getA,aV] at s
      exact zk 5 rfl (WP.ret ⟨aa,_,rfl,e,b,ε,.read e b ε J I rfl g1 hr,.inl ⟨he,rfl,s.ae [4]⟩⟩)
     ·dsimp only [bringA,getA,aV] at s
      exact zk 5 rfl (WP.ret ⟨aa,_,rfl,0,b,ε,.read 0 b ε J I rfl g1 hr,.inr ⟨rfl,u,rfl,s.ae [0,4]⟩⟩)
    ·dsimp only [bringA,getA,aV] at s2
     refine zo rfl (iZ rfl rfl g2) (zk 14 rfl ?_)
     have hb:=tY _ (ki g1)
     refine zc rfl (pH hT s2 (dc _ _) (by simp only at hb; omega)) ?_
     intro v h s
     refine zk 3 rfl (WP.ret ⟨aa,_,rfl,?_⟩)
     have s:=cQ.2 ⟨dv,s.ae [3,3,0,0,0,0,0,0,0]⟩
     have s:=dA.2 ⟨nv,s.ae [4,3]⟩
     exact ⟨0,b,_,.own b J I rfl g1,.inr ⟨rfl,v,rfl,((s.ae [2,0,0,1,1,1]).del 6)⟩⟩
end
inductive qN (ε:aF)(now:List (Int×List Nat))(bK:Bool)(n:Int)(b:List Nat): Int→List (Int×List Nat)→aF→Prop where
 | may (e:Int) (c:List Nat) (ε':aF) (hr:mS ε now bK n e c ε') (he:e≠0):qN ε now bK n b e now ε'
 | bad (c:List Nat) (ε':aF) (hr:mS ε now bK n 0 c ε') (hg:bU b=false):qN ε now bK n b 4 now ε'
 | done (c:List Nat) (ε':aF) (hr:mS ε now bK n 0 c ε') (hg:bU b=true):qN ε now bK n b 0 (dg n b now) ε'
theorem qN.l_ {ε ε':aF}{now b6:List (Int×List Nat)}{bK:Bool}{n e:Int}{b:List Nat}(I:qN ε now bK n b e b6 ε')(h:iJ ε): iJ ε':=by
 cases I with
 | may e c ε' I he=>exact I.l_ h
 | bad c ε' I J=>exact I.l_ h
 | done c ε' I J=>exact I.l_ h
section
variable {told:cN} {h:H} {S:List aq} {X:aq} {r k q p bM a g bz:Nat} {op v x wh di:V} {l b data:List Nat} {π:Pl} {m:List Fm} {μ:Lg} {δ:Dk} {now:List (Int×List Nat)} {bK:Bool}
theorem Ry (hT:W told){n:Int}(s:Sat h (fK g a now bK::ej a p q r op data bz::dL r p q π::b7 q p μ::bx p δ::S))(J:iJ (π,μ,δ))(hw:δ.waiting.length≤268435456)(I:∀e∈now,e.2.length=512):
  Call ⟨Tryz.prog,told⟩ 106 [.iface 26 (.ptr g 0),.int .i64 n] h fun v h'=>∃(e:Int) (b:List Nat) (ε:aF),mS (π,μ,δ) now bK n e b ε∧v=.int .i64 e ∧
   Sat h' (fK g a now bK::ej a p q r op data bz::dL r p q ε.1::b7 q p ε.2.1::bx p ε.2.2::S):=by
 refine Call.of_wp (hT.free _ rfl) Tryz.func106 rfl rfl (zK 8 rfl (az.any rfl rfl rfl (OpR.invoke rfl rfl rfl Gi rfl (DO (n:=n) hT s J hw I)) ?_))
 rintro v h ⟨e,b,ε,hr,(⟨he,rfl,s⟩ | ⟨rfl,u,rfl,s⟩)⟩
 ·refine az.op rfl rfl rfl (cg rfl) ?_
  exact zk 10 rfl (WP.ret ⟨aa,_,rfl,e,b,ε,hr,rfl,s⟩)
 ·skip
  exact zk 11 rfl (WP.ret ⟨aa,_,rfl,0,b,ε,hr,rfl,s.drop⟩)
theorem J8 (hT:W told){n:Int}(s:Sat h (fK g a now bK::ej a p q r op data bz::dL r p q π::b7 q p μ::bx p δ::X::S))(hX:cO X (cR x b))(hb:b.length<9223372036854775808)(fq:iJ (π,μ,δ))(hw:δ.waiting.length≤268435456)(J:∀e∈now,e.2.length=512):
  Call ⟨Tryz.prog,told⟩ 49 [.ptr g 0,.int .i64 n,x] h fun v h'=>∃(e:Int) (b6:List (Int×List Nat)) (ε:aF),qN (π,μ,δ) now bK n b e b6 ε∧v=.int .i64 e ∧
   Sat h' (fK g a b6 bK::ej a p q r op data bz::dL r p q ε.1::b7 q p ε.2.1::bx p ε.2.2::X::S):=by
 refine Call.of_wp (hT.free _ rfl) Tryz.func49 rfl rfl (zK 8 rfl (zo rfl (pF rfl (m_ j8 rfl)) (zm rfl (zc rfl (Ry (n:=n) hT s fq hw J) ?_))))
 rintro v h ⟨e,c,ε,hr,rfl,s⟩
 refine zk 5 rfl ?_
 by_cases he:e=0
 ·skip
  subst he
  refine zh rfl (ag rfl rfl aJ) (rfl) (zk 7 rfl (zc rfl (F_ hT (s.ae [5]) hX hb) ?_))
  rintro v h ⟨rfl,s⟩
  refine zo rfl (fo rfl rfl) (zv ?_)
  by_cases I:bU b=true
  ·skip
   refine WP.Ns rfl (by rw [I]; rfl) ?_
   have Va:=gQ I
   obtain ⟨nv,s⟩:=dA.1 (s.ae [1])
   have s:=s.ae [2,0,0]
   obtain ⟨tf,rfl⟩:=Dn s (j:=2) rfl
   refine zK 2 rfl ?_
   have s0:=s
   refine WP.drawn [some (0,2),some (0,2),some (0,2),some (0,2),some (0,2),ak,ak,ak] rfl (by kernel_rfl) (by kernel_rfl) ?_
   refine zM rfl (zN rfl (zF rfl (n_ _ _) (zL rfl (s.ld (k:=1) rfl me rfl) (zM rfl (zM rfl (aC.any rfl rfl rfl rfl (OpR.call rfl rfl rfl rfl (pH hT s hX (by omega))) ?_))))))
   intro u h s
   obtain ⟨kg,_,cap,_,rfl,_⟩:=s.eF (by omega)
   have s:=s.gF
   have s1:=s
   refine aC.j3 rfl rfl rfl (OpR.mapUpdate rfl rfl rfl rfl (mu (f:=fun v b=>aq.cu v b) (x:=b) (fun _ _=>aS.cu _ _) (s.ae [0,2]) oH bO)) ?_
   intro w h s
   refine aC.nil ⟨⟨fun _ _=>.inr ⟨rfl,⟨_,cg rfl⟩,bS _ rfl⟩,fun _ _=>.inr ⟨rfl,⟨_,tO rfl⟩,bS _ rfl⟩,fun _ _=>.inr ⟨rfl,⟨_,nZ rfl (n_ _ _)⟩,bS _ rfl⟩,ff (.inr ⟨rfl,⟨_,aU rfl (s0.ld (k:=1) rfl me rfl)⟩,bS _ rfl⟩) (.inr ⟨rfl,⟨_,aU rfl (s1.ld (k:=2) rfl me rfl)⟩,bS _ rfl⟩),fun _ _=>.inr ⟨rfl,⟨_,cg rfl⟩,bS _ rfl⟩,aa,aa,aa,aa⟩,?_⟩
   exact zK 4 rfl (WP.ret ⟨aa,_,rfl,0,_,ε,.done c ε hr I,rfl,dA.2 ⟨.map tf,s.ae [2,0,1,1,1,1,0]⟩⟩)
  ·have I:bU b=false:=by simpa using I
   refine WP.Ho rfl (by rw [I]; rfl) ?_
   exact zK 4 rfl (WP.ret ⟨aa,_,rfl,4,_,ε,.bad c ε hr I,rfl,s.ae [1,1,1,1,1,0]⟩)
 ·skip
  refine zt rfl (ag rfl rfl aJ) (by simp; exact he) ?_
  exact zk 7 rfl (WP.ret ⟨aa,_,rfl,e,_,ε,.may e c ε hr he,rfl,s⟩)
theorem J9 (I:W told)(s:Sat h (fK g a now bK::ej a p q r (.ptr g 0) data bz::S)): Call ⟨Tryz.prog,told⟩ 60 [.ptr g 0] h fun v h'=>v=.bh []∧Sat h' (fK g a now true::ej a p q r .cU data bz::S):=by
 obtain ⟨J,s⟩:=dA.1 s
 obtain ⟨dv,s⟩:=cQ.1 (s.ae [2])
 refine Call.of_wp (I.free _ rfl) Tryz.func60 rfl rfl (zK 4 rfl (zf rfl (wE _ _) ?_))
 refine zS rfl (by exact s.iF (k:=2) rfl xp rfl (by decide) rfl rfl) (fun h s => ?_)
 refine zk 5 rfl (zf rfl (mM _ _) (zl rfl (s.ld (k:=2) rfl va rfl) (zn rfl (zf rfl (qf _ _) (zl rfl (s.ld (k:=0) rfl Hq rfl) (zm rfl (zt rfl (ag rfl rfl (S_ j8 Sx (by decide) (s.row (k:=2) rfl) (s.row (k:=2) rfl) (by decide) (by decide))) (c_ g) ?_)))))))
 refine zk 5 rfl (zf rfl (mM _ _) (zl rfl (s.ld (k:=2) rfl va rfl) (zn rfl (zf rfl (qf _ _) ?_))))
 refine zS rfl (by exact s.iF (k:=0) rfl Q6 rfl (by decide) rfl rfl) (fun h s => ?_)
 refine zv ?_
 have s:=dA.2 ⟨J,(cQ.2 ⟨dv,s⟩).ae [1,1]⟩
 exact ⟨aa,_,rfl,rfl,s⟩
theorem Fb (I:W told)(s:Sat h (fK g a now bK::ej a p q r .cU data bz::S)): Call ⟨Tryz.prog,told⟩ 60 [.ptr g 0] h fun v h'=>v=.bh []∧Sat h' (fK g a now true::ej a p q r .cU data bz::S):=by
 obtain ⟨J,s⟩:=dA.1 s
 obtain ⟨dv,s⟩:=cQ.1 (s.ae [2])
 dsimp only [bringA,getA,aV] at s
 refine Call.of_wp (I.free _ rfl) Tryz.func60 rfl rfl (zK 4 rfl (zf rfl (wE _ _) ?_))
 refine zS rfl (by exact s.iF (k:=2) rfl xp rfl (by decide) rfl rfl) (fun h s => ?_)
 dsimp only [Gg,Nat.reduceAdd,List.set,setA] at s
 refine zv (zg rfl (zk 2 rfl (zf rfl (mM _ _) (zl rfl (by exact s.ld (k:=2) rfl va rfl) ?_))))
 refine zn rfl (zf rfl (qf _ _) (zl rfl (by exact s.ld (k:=0) rfl Hq rfl) ?_))
 refine zm rfl (zh rfl (ag rfl rfl (S9 j8)) (rfl) (zv (zj rfl (WP.skip ?_))))
 have s:=dA.2 ⟨J,(cQ.2 ⟨dv,s⟩).ae [1,1]⟩
 exact ⟨aa,_,rfl,rfl,s⟩
theorem HW (I:W told)(s:Sat h (fK g a now bK::ej a p q r .cU data bz::S)): Call ⟨Tryz.prog,told⟩ 33 [.ptr g 0] h fun v h'=>v=.bh []∧Sat h' (fK g a now true::ej a p q r .cU data bz::S):=by
 refine Call.of_wp (I.free _ rfl) Tryz.func33 rfl rfl (zK 2 rfl (zc rfl (Fb I s) ?_))
 rintro v h ⟨rfl,s⟩
 exact zv ⟨aa,_,rfl,rfl,s⟩
end
end Go.Proofs.YtefepnnfphdkpaaGreat.Am
