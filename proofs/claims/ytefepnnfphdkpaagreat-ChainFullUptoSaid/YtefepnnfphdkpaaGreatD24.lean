/- ChainFull: a part of its proof; conditions: its statement's. -/
import Derived.Test.YtefepnnfphdkpaaGreatD23
import Derived.Test.YtefepnnfphdkpaaGreatD11
set_option linter.defProp false
namespace Go.Proofs.YtefepnnfphdkpaaGreat.Am
open Go
def jo:=@Tryz.underlying26
def Eg:=@Tryz.func33
structure v_ (ε:aF): Prop where
 pl:ε.1.Ok
 lg:ε.2.1.Ok
 dk:ε.2.2.Ok
theorem MU {ε:aF}{i:Nat}(h:ε.1.Ok): (outF ε i).2.1.Ok:=by
 unfold outF
 split
 ·exact h
 ·rename_i f J
  have hm:=aV J
  split
  ·exact h
  ·split
   ·exact h
   ·split
    ·exact h
    ·split
     ·exact h
     ·refine ⟨by simp only [cq]; exact h.hand,by simp only [cq]; exact h.many,fun e he=>by simp only [cq]; exact h.bu e he,fun g I => ?_,fun g I => ?_⟩
      ·rcases lT I with I | rfl
       ·exact h.len g I
       ·exact h.len f hm
      ·rcases lT I with I | rfl
       ·exact h.pins g I
       ·exact h.pins f hm
theorem uA {ε:aF}{i:Nat}(h:v_ ε): v_ (outF ε i).2:=⟨MU h.pl,MQ h.lg,yI h.dk⟩
theorem FN {δ:Dk}{n:Int}{b:List Nat}: (δ.cU n b).2.waiting.length≤δ.waiting.length+1:=by
 unfold Dk.cU
 split
 ·exact qA _
 ·split
  ·exact qA _
  ·split
   ·exact qA _
   ·exact Nat.le_of_eq (by simp [Dk.wr])
section
variable {told:cz} {h:H} {S:List aq} {X:aq} {r k q p bQ:Nat} {v x wh di:V} {l b:List Nat} {π:Pl} {m:List Fm} {μ:Lg} {δ:Dk}
end
section
variable {told:cz} {h:H} {S:List aq} {X:aq} {r k q p bQ:Nat} {v x wh di:V} {l b:List Nat} {π:Pl} {m:List Fm} {μ:Lg} {δ:Dk}
end
section
variable {C:b9} {au:Nat} {E:List (Nat×V)} {h:H} {Q Q':Ex→List (Nat×V)→H→Prop} {a b:Code}
end
end Go.Proofs.YtefepnnfphdkpaaGreat.Am
namespace Go.Proofs.YtefepnnfphdkpaaGreat.Am
open Go
section
variable {h:H} {r iU since clock b:Nat} {seen:List Nat} {es:fN}
end
open Classical in
noncomputable def lM (P:Program)(f:FuncId)(gU:List V→H→V×H→Prop)(args:List V)(h:H): Option (V×H) :=
 if I:∃r,gU args h r∧∀(c:Ctx) (w:World),Rel c h w→(∀x∈args,wf c x)→gw P f args c w r.1 r.2 then some I.choose else none
theorem Cs {P : Program} {f : FuncId} {gU : List V → H → V × H → Prop} (J : ∃ fn, P.funcs[f]? = some fn ∧ fn.body.isSome = true ∧ (fn.name == "runtime.NumGoroutine") = false) : Gd P f (lM P f gU) := by
 refine .inl ⟨J, fun args σ v dU I c w h hw => ?_⟩
 unfold lM at I
 split at I
 ·rename_i hx
  have := hx.choose_spec.2 c w h hw
  injection I with I
  rw [I] at this
  exact this
 ·cases I
theorem Ct {P:Program}{f:FuncId}{gU:List V→H→V×H→Prop}{args:List V}{h:H}{r:V×H}(J:gU args h r)(h2:∀(c:Ctx) (w:World),Rel c h w→(∀x∈args,wf c x)→gw P f args c w r.1 r.2):
  ∃r,lM P f gU args h=some r∧gU args h r:=by
 have I:∃r,gU args h r∧∀(c:Ctx) (w:World),Rel c h w→(∀x∈args,wf c x)→gw P f args c w r.1 r.2:=⟨r,J,h2⟩
 refine ⟨I.choose,?_,I.choose_spec.1⟩
 unfold lM
 rw [dif_pos I]
noncomputable def mH (f:Nat): Option (List V→H→Option (V×H)) :=
 cond (Nat.beq f 61) (some (toldSorted xE)) (cond (Nat.beq f 178) (some toldMore) none)
noncomputable abbrev CB : b9:=⟨Tryz.prog,mH⟩
theorem AI : Tryz.prog.follows .mixedOrders=true:=by kernel_rfl
theorem yJ : fA CB:=by
 intro f g I
 simp only [CB,mH] at I ⊢
 by_cases h1:f=61
 ·subst h1
  rw [gT rfl,af] at I
  simp only [aj] at I
  subst I
  exact .inl ⟨⟨_,Tryz.func61,rfl,by decide⟩,fun args σ v J hr c w h _=>CV bR Kk hr h⟩
 ·rw [cV h1,ay] at I
  by_cases h2:f=178
  ·subst h2
   rw [gT rfl,af] at I
   simp only [aj] at I
   subst I
   exact .inl ⟨⟨_,zZ,rfl,by decide⟩,fun args σ v J hr c w h hw=>FA (C:=CB) rfl AI hr h hw⟩
  ·rw [cV h2,ay] at I
   cases I
theorem W.base : W mH:=by
 refine ⟨fun f I => ?_,rfl,rfl⟩
 have J:f≠61:=fun e=>by subst e; revert I; decide
 have h2:f≠178:=fun e=>by subst e; revert I; decide
 simp only [mH,cV J,cV h2,ay]
section
variable {P:Program} {h:H} {S:List aq} {k id off n:Nat} {cs:List V} {st:Bool} {v:V} {t:TypeId}
end
section
variable {told:cz} {h:H} {S:List aq} {X:aq} {r k q p bQ:Nat} {v x wh di:V} {l b:List Nat} {π:Pl} {m:List Fm} {μ:Lg} {δ:Dk}
end
section
variable {told:cz} {h:H} {S:List aq} {X:aq} {r k q p bQ:Nat} {v x wh di:V} {l b:List Nat} {π:Pl} {m:List Fm} {μ:Lg} {δ:Dk}
end
section
variable {told:cz} {h:H} {S:List aq} {X:aq} {r k q p bQ:Nat} {v x wh di:V} {l b:List Nat} {π:Pl} {m:List (Int×(Nat×Bool))} {μ:Lg} {δ:Dk}
end
theorem eN.ah {π I:Pl}(J:eN π I): ∀g∈I.ah,∃f∈π.ah,∃t,g={ f with dP:=t }:=by
 intro g hg
 obtain ⟨i,hi,rfl⟩:=List.mem_iff_getElem.1 hg
 have hf:π.ah[i]?=some (π.ah[i]'(by rw [←J.len]; exact hi)):=aM _
 obtain ⟨t,ht⟩:=J.get i _ hf
 rw [aM hi] at ht
 exact ⟨_,qq _,t,bE ht⟩
theorem eN.ok {π I:Pl}(J:eN π I)(h:π.Ok)(hh:I.hand<I.ah.length): I.Ok:=by
 refine ⟨hh,by rw [J.len]; exact h.many,by rw [J.bu,J.len]; exact h.bu,fun g hg => ?_,fun g hg => ?_⟩
 ·obtain ⟨f,hf,t,rfl⟩:=J.ah g hg
  exact h.len f hf
 ·obtain ⟨f,hf,t,rfl⟩:=J.ah g hg
  exact h.pins f hf
theorem Pl.Ok.set {π:Pl}{i:Nat}{f:Fm}{w:List (Int×Int)}{d:List (Int×(Nat×Bool))}(h:π.Ok)(hw:∀e∈w,0≤e.2∧e.2<π.ah.length)(J:f.b.length≤512)(hp:0≤f.pins∧f.pins≤4294967296): Pl.Ok { π with ah:=π.ah.set i f,bu:=w,ck:=d }:=by
 refine ⟨by simp only [cq]; exact h.hand,by simp only [cq]; exact h.many,fun e he=>by simp only [cq]; exact hw e he,fun g I => ?_,fun g I => ?_⟩
 ·rcases lT I with I | rfl
  ·exact h.len g I
  ·exact J
 ·rcases lT I with I | rfl
  ·exact h.pins g I
  ·exact hp
theorem P5 {α:Type}{n:Int}: ∀ {l:List (Int×α)} {e:Int×α},e∈kW n l→e∈l:=by
 intro l
 induction l with
 | nil=>intro e h; exact h
 | cons x l I =>
  intro e h
  simp only [kW] at h
  split at h
  ·exact cr _ h
  ·rcases List.mem_cons.1 h with rfl | h
   ·exact ct
   ·exact cr _ (I h)
theorem P6 {α:Type}{n:Int}{x:α}: ∀ {l:List (Int×α)} {e:Int×α},e∈dc n x l→e=(n,x)∨e∈l:=by
 intro l
 induction l with
 | nil=>intro e h; simp only [dc,sO] at h; exact .inl h
 | cons y l I =>
  intro e h
  simp only [dc] at h
  split at h
  ·rcases List.mem_cons.1 h with rfl | h
   ·exact .inl rfl
   ·exact .inr (cr _ h)
  ·rcases List.mem_cons.1 h with rfl | h
   ·exact .inr ct
   ·rcases I h with h | h
    ·exact .inl h
    ·exact .inr (cr _ h)
theorem yK {π:Pl}{i:Nat}{f:Fm}(h:π.Ok): (cF π i f).Ok:=by
 unfold cF
 refine h.set (fun e he => ?_) (by simp [dL]) (by simp [dL])
 split at he
 ·exact h.bu e he
 ·exact h.bu e (P5 he)
theorem eO.ok {ε ε':aF}{n e:Int}{b:List Nat}(hr:eO ε n e b ε')(h:v_ ε)(hp:∀f∈ε.1.ah,f.pins=0): v_ ε':=by
 cases hr with
 | arg _=>exact h
 | AF i f h1 h2 hl hf =>
  have hm:=aV hf
  exact ⟨h.pl.set h.pl.bu (h.pl.len f hm) (by have:=hp f hm; simp only; omega),h.lg,h.dk⟩
 | out I i f h1 h2 hl J hf hh he=>exact uA (ε:=(I,ε.2)) ⟨J.ok h.pl hh,h.lg,h.dk⟩
 | read I i f h1 h2 hl J hf hh he hr =>
  have:=uA (i:=i) (ε:=(I,ε.2)) ⟨J.ok h.pl hh,h.lg,h.dk⟩
  exact ⟨yK this.pl,this.lg,this.dk⟩
 | bad I i f h1 h2 hl J hf hh he hr hc =>
  have:=uA (i:=i) (ε:=(I,ε.2)) ⟨J.ok h.pl hh,h.lg,h.dk⟩
  exact ⟨yK this.pl,this.lg,this.dk⟩
 | load I i f h1 h2 hl J hf hh he hr hc =>
  have:=uA (i:=i) (ε:=(I,ε.2)) ⟨J.ok h.pl hh,h.lg,h.dk⟩
  have h3:=yK (i:=i) (f:=f) this.pl
  have hlen:i<(cF (outF (I,ε.2) i).2.1 i f).ah.length:=by
   obtain ⟨c,hc⟩:=l9 (ε:=(I,ε.2)) hf
   have:=(List.getElem?_eq_some_iff.1 hc).1
   simpa [cF] using this
  refine ⟨h3.set (fun e he => ?_) (by simp only; rw [this.dk.at]; omega) (by simp),this.lg,this.dk⟩
  rcases P6 he with rfl | he
  ·simp only; omega
  ·exact h3.bu e he
theorem Cu {π:Pl}{n:Int}(h:π.Ok): (unpinF π n).2.Ok:=by
 unfold unpinF
 split
 ·exact h
 ·rename_i i hi
  split
  ·exact h
  ·rename_i f I
   have hm:=aV I
   refine h.set h.bu (h.len f hm) ?_
   have:=h.pins f hm
   have J:f.pins≠0:=by
    unfold heldI at hi
    split at hi
    ·cases hi
    ·split at hi
     ·cases hi
     ·rename_i g hg
      split at hi
      ·cases hi
      ·rename_i hp
       have:=bE hi
       subst this
       rw [hg] at I
       have:=bE I
       subst this
       exact hp
   simp only; omega
inductive k9 (ε:aF)(n:Int): Int→List Nat→aF→Prop where
 | dead (h:ε.2.2.dead=true):k9 ε n 9 [] ε
 | gU (e:Int) (b:List Nat) (ε':aF) (h:ε.2.2.dead=false) (hr:eO ε n e b ε') (he:e≠0):k9 ε n e [] ε'
 | qh (b:List Nat) (ε':aF) (h:ε.2.2.dead=false) (hr:eO ε n 0 b ε') (he:(unpinF ε'.1 n).1≠0):k9 ε n (unpinF ε'.1 n).1 [] ((unpinF ε'.1 n).2,ε'.2)
 | read (b:List Nat) (ε':aF) (h:ε.2.2.dead=false) (hr:eO ε n 0 b ε') (he:(unpinF ε'.1 n).1=0):k9 ε n 0 b ((unpinF ε'.1 n).2,ε'.2)
theorem k9.ok {ε ε':aF}{n e:Int}{b:List Nat}(I:k9 ε n e b ε')(h:v_ ε)(J:∀f∈ε.1.ah,f.pins=0): v_ ε':=by
 cases I with
 | dead _=>exact h
 | gU e b ε' hd I he=>exact I.ok h J
 | qh b ε' hd I he=>have:=I.ok h J; exact ⟨Cu this.pl,this.lg,this.dk⟩
 | read b ε' hd I he=>have:=I.ok h J; exact ⟨Cu this.pl,this.lg,this.dk⟩
def GX (a p q r:Nat)(op dv:V)(bf:Nat): List V:=[.ptr p 0,.ptr q 0,.ptr r 0,op,dv,.int .u64 (bf:Int)]
def dR (a p q r:Nat)(op:V)(data:List Nat)(bf:Nat): aq:=xs fun dv:V=>star [pt a (.cells 6 (GX a p q r op dv bf) false),.cy dv data]
def fy (g a:Nat)(now:List (Int×List Nat))(bL:Bool): aq:=xs fun I:V=>star [pt g (.cells 3 [.ptr a 0,I,.bool bL] false),jl (fun v b=>.cy v b) I now]
section
variable {told:cz} {h:H} {S:List aq} {X:aq} {r k q p bQ a g bf:Nat} {op v x wh di:V} {l b data:List Nat} {π:Pl} {m:List Fm} {μ:Lg} {δ:Dk} {now:List (Int×List Nat)} {bL:Bool}
theorem cS : Sat h (dR a p q r op data bf::S)↔∃dv,Sat h (pt a (.cells 6 (GX a p q r op dv bf) false)::.cy dv data::S):=by
 simp only [dR,kj,cR,gX,c_]
theorem dD : Sat h (fy g a now bL::S)↔∃I,Sat h (pt g (.cells 3 [.ptr a 0,I,.bool bL] false)::jl (fun v b=>.cy v b) I now::S):=by
 simp only [fy,kj,cR,gX,c_]
theorem yL (hT:W told){n:Int}(s:Sat h (dR a p q r op data bf::dQ r p q π::cf q p μ::bz p δ::S))(I:v_ (π,μ,δ))(J:∀f∈π.ah,f.pins=0)(hw:δ.waiting.length≤268435456):
  Call ⟨Tryz.prog,told⟩ 113 [.ptr a 0,.int .i64 n] h fun v h'=>∃(e:Int) (b:List Nat) (ε:aF),k9 (π,μ,δ) n e b ε ∧
   ((e≠0∧v=.aX [.bn,.int .i64 e]∧Sat h' (dR a p q r op data bf::dQ r p q ε.1::cf q p ε.2.1::bz p ε.2.2::S)) ∨
    (e=0∧∃u,v=.aX [u,.int .i64 0]∧Sat h' (aU u b::dR a p q r op data bf::dQ r p q ε.1::cf q p ε.2.1::bz p ε.2.2::S))):=by
 have s0:=s
 obtain ⟨dv,s⟩:=cS.1 s
 refine Call.of_wp (hT.free _ rfl) Tryz.func113 rfl rfl (zK 10 rfl (zf rfl (xp _ _) (zl rfl (s.ld (k:=0) rfl sD rfl) (zc rfl (D3 hT (s.ae [4])) ?_))))
 rintro v h ⟨rfl,rfl⟩
 refine zv ?_
 cases hd:δ.dead with
 | true =>
  exact zK 6 rfl (WP.ret ⟨aa,_,rfl,9,[],_,.dead hd,.inl ⟨by decide,rfl,s0⟩⟩)
 | false =>
  refine zK 6 rfl (zf rfl (qH _ _) (zl rfl (s.ld (k:=0) rfl xo rfl) (zm rfl (zc rfl (KJ (n:=n) hT (s.ae [2,2,2]) I.pl J I.lg I.dk hw) ?_))))
  rintro v h ⟨e,b,ε,hr,(⟨he,rfl,s⟩ | ⟨rfl,u,rfl,s⟩)⟩
  ·dsimp only [bringA,getA,aZ] at s
   refine zk 10 rfl (zt rfl (ag rfl rfl aI) (by simp; exact he) ?_)
   exact zk 8 rfl (WP.ret ⟨aa,_,rfl,e,[],ε,.gU e b ε hd hr he,.inl ⟨he,rfl,cS.2 ⟨dv,s.ae [3,3,0,0,0]⟩⟩⟩)
  ·dsimp only [bringA,getA,aZ] at s
   refine zk 10 rfl (zh rfl (ag rfl rfl aI) (rfl) ?_)
   have s:=s.ae [4,4,0,0,0,0]
   refine zk 8 rfl (zf rfl (qH _ _) (zl rfl (s.ld (k:=0) rfl xo rfl) (zm rfl ?_)))
   have yl:=hr.ok I J
   refine zc rfl (Ef (n:=n) hT (s.ae [3]) yl.pl) ?_
   rintro v h ⟨rfl,s⟩
   refine zk 5 rfl ?_
   by_cases he:(unpinF ε.1 n).1=0
   ·skip
    refine zh rfl (ag rfl rfl aI) (by simp; exact he) ?_
    exact zk 9 rfl (WP.ret ⟨aa,_,rfl,0,b,_,.read b ε hd hr he,.inr ⟨rfl,u,rfl,(cS.2 ⟨dv,s.ae [1,1,0,1,1,0]⟩).ae [4,0,0,0,0]⟩⟩)
   ·skip
    refine zt rfl (ag rfl rfl aI) (by simp; exact he) ?_
    exact zk 8 rfl (WP.ret ⟨aa,_,rfl,_,[],_,.qh b ε hd hr he,.inl ⟨he,rfl,(cS.2 ⟨dv,(s.ae [1,1,0,1,1,0]).del 5⟩)⟩⟩)
end
structure Pl.Full (π:Pl): Prop where
 nodup:(π.bu.map (·.1)).Nodup
 lN:∀n i,lookL n π.bu=some i→0≤n∧∃f,π.ah[i.toNat]?=some f∧f.bg=n∧f.b.length=512
structure iT (ε:aF): Prop where
 ok:v_ ε
 pins:∀f∈ε.1.ah,f.pins=0
 full:ε.1.Full
theorem Pl.Full.set {π:Pl}{i:Nat}{f g:Fm}{d:List (Int×(Nat×Bool))}(h:π.Full)(hf:π.ah[i]?=some f)(hp:g.bg=f.bg)(hl:f.b.length=512→g.b.length=512): Pl.Full { π with ah:=π.ah.set i g,ck:=d }:=by
 refine ⟨h.nodup,fun n j hj => ?_⟩
 obtain ⟨h1,f',J,h3,h4⟩:=h.lN n j hj
 refine ⟨h1,?_⟩
 by_cases I:i=j.toNat
 ·subst I
  rw [hf] at J
  have:=bE J
  subst this
  exact ⟨g,gW (List.getElem?_eq_some_iff.1 hf).1,hp.trans h3,hl h4⟩
 ·exact ⟨f',by simp only [fZ I]; exact J,h3,h4⟩
theorem eN.full {π I:Pl}(J:eN π I)(h:π.Full): I.Full:=by
 refine ⟨by rw [J.bu]; exact h.nodup,fun n j hj => ?_⟩
 rw [J.bu] at hj
 obtain ⟨h1,f',h2,h3,h4⟩:=h.lN n j hj
 obtain ⟨t,ht⟩:=J.get _ _ h2
 exact ⟨h1,_,ht,h3,h4⟩
theorem r8 {ε:aF}{i:Nat}(h:ε.1.Full): (outF ε i).2.1.Full:=by
 unfold outF
 split
 ·exact h
 ·rename_i f I
  split
  ·exact h
  ·split
   ·exact h
   ·split
    ·exact h
    ·split
     ·exact h
     ·exact h.set I rfl fun J=>J
theorem uB {π:Pl}{i:Nat}{f g:Fm}(h:π.Full)(hg:π.ah[i]?=some g)(hp:g.bg=f.bg): (cF π i f).Full∧∀n j,lookL n (cF π i f).bu=some j→j.toNat≠i:=by
 have key:∀n j,lookL n (cF π i f).bu=some j→lookL n π.bu=some j∧j.toNat≠i:=by
  intro n j I
  by_cases hf:f.bg<0
  ·have hw:(cF π i f).bu=π.bu:=by simp only [cF,ax hf]
   rw [hw] at I
   refine ⟨I,fun hi => ?_⟩
   obtain ⟨h1,f',J,h3,_⟩:=h.lN n j I
   rw [hi,hg] at J
   have:=bE J
   subst this
   omega
  ·have hw:(cF π i f).bu=kW f.bg π.bu:=by simp only [cF,ai hf]
   rw [hw,Ck h.nodup] at I
   by_cases hn:f.bg=n
   ·rw [ax hn] at I; cases I
   ·rw [ai hn] at I
    refine ⟨I,fun hi => ?_⟩
    obtain ⟨h1,f',J,h3,_⟩:=h.lN n j I
    rw [hi,hg] at J
    have:=bE J
    subst this
    omega
 refine ⟨⟨?_,fun n j I => ?_⟩,fun n j I=>(key n j I).2⟩
 ·unfold cF
  simp only
  split
  ·exact h.nodup
  ·exact uw h.nodup
 ·obtain ⟨h1,J⟩:=key n j I
  obtain ⟨h3,f',h4,h5,h6⟩:=h.lN n j h1
  exact ⟨h3,f',by simp only [cF,fZ (ja J)]; exact h4,h5,h6⟩
theorem FO {π:Pl}{i:Nat}{n:Int}{b:List Nat}(h:π.Full)(hi:i<π.ah.length)(J:∀n j,lookL n π.bu=some j→j.toNat≠i)(hn:0≤n)(hb:b.length=512): (iz π i n b).Full:=by
 refine ⟨kK h.nodup,fun m j I => ?_⟩
 simp only [iz,oU] at I
 by_cases hm:n=m
 ·rw [ax hm] at I
  have:=bE I
  subst this; subst hm
  exact ⟨hn,⟨n,b,1,true,false⟩,gW hi,rfl,hb⟩
 ·rw [ai hm] at I
  obtain ⟨h3,f',h4,h5,h6⟩:=h.lN m j I
  exact ⟨h3,f',by simp only [iz,fZ (ja (J m j I))]; exact h4,h5,h6⟩
theorem eO.full {ε ε':aF}{n e:Int}{b:List Nat}(hr:eO ε n e b ε')(hd:ε.2.2.Ok)(h:ε.1.Full): ε'.1.Full∧(e=0→b.length=512):=by
 cases hr with
 | arg _=>exact ⟨h,fun h=>(by cases h)⟩
 | AF i f h1 h2 hl hf =>
  refine ⟨h.set hf rfl fun hl=>hl,fun _ => ?_⟩
  obtain ⟨_,f',h4,_,h6⟩:=h.lN n i hl
  rw [bZ,hf] at h4
  have:=bE h4
  subst this
  exact h6
 | out I i f h1 h2 hl hn hf hh he=>exact ⟨r8 (ε:=(I,ε.2)) (hn.full h),fun h=>absurd h he⟩
 | read I i f h1 h2 hl hn hf hh he hr =>
  obtain ⟨c,J⟩:=l9 (ε:=(I,ε.2)) hf
  exact ⟨(uB (f:=f) (r8 (ε:=(I,ε.2)) (hn.full h)) J rfl).1,fun h=>absurd h hr⟩
 | bad I i f h1 h2 hl hn hf hh he hr hc =>
  obtain ⟨c,J⟩:=l9 (ε:=(I,ε.2)) hf
  exact ⟨(uB (f:=f) (r8 (ε:=(I,ε.2)) (hn.full h)) J rfl).1,fun h=>absurd h hc⟩
 | load I i f h1 h2 hl hn hf hh he hr hc =>
  obtain ⟨c,J⟩:=l9 (ε:=(I,ε.2)) hf
  have hi:=(List.getElem?_eq_some_iff.1 J).1
  obtain ⟨k1,k2⟩:=uB (f:=f) (r8 (ε:=(I,ε.2)) (hn.full h)) J rfl
  have yp:=(yI (ε:=(I,ε.2)) (i:=i) hd).at n
  exact ⟨FO k1 (by simp only [cF,cq]; exact hi) k2 h1 yp,fun _=>yp⟩
theorem yq {π:Pl}{n:Int}(h:π.Full): (unpinF π n).2.Full:=by
 unfold unpinF
 split
 ·exact h
 ·split
  ·exact h
  ·rename_i f I
   exact h.set I rfl fun J=>J
theorem eN.pins {π I:Pl}(J:eN π I)(h:∀f∈π.ah,f.pins=0): ∀f∈I.ah,f.pins=0:=fun g hg=>by
 obtain ⟨f,hf,t,rfl⟩:=J.ah g hg
 exact h f hf
theorem r9 {ε:aF}{i:Nat}(h:∀f∈ε.1.ah,f.pins=0): ∀f∈(outF ε i).2.1.ah,f.pins=0:=by
 unfold outF
 split
 ·exact h
 ·rename_i f J
  have hm:=aV J
  split
  ·exact h
  ·split
   ·exact h
   ·split
    ·exact h
    ·split
     ·exact h
     ·intro g I
      rcases lT I with I | rfl
      ·exact h g I
      ·exact h f hm
theorem uC {π:Pl}{i:Nat}{f:Fm}(h:∀f∈π.ah,f.pins=0): ∀f∈(cF π i f).ah,f.pins=0:=by
 intro g I
 rcases lT I with I | rfl
 ·exact h g I
 ·rfl
theorem eO.GY {ε ε':aF}{n e:Int}{b:List Nat}(hr:eO ε n e b ε')(he:e≠0)(hp:∀f∈ε.1.ah,f.pins=0): ∀f∈ε'.1.ah,f.pins=0:=by
 cases hr with
 | arg _=>exact hp
 | AF i f h1 h2 hl hf=>exact absurd rfl he
 | out I i f h1 h2 hl J hf hh he=>exact r9 (ε:=(I,ε.2)) (J.pins hp)
 | read I i f h1 h2 hl J hf hh he hr=>exact uC (f:=f) (r9 (ε:=(I,ε.2)) (J.pins hp))
 | bad I i f h1 h2 hl J hf hh he hr hc=>exact uC (f:=f) (r9 (ε:=(I,ε.2)) (J.pins hp))
 | load I i f h1 h2 hl J hf hh he hr hc=>exact absurd rfl he
theorem Eh {m:List Fm}{i:Nat}{f g:Fm}(h:∀f∈m,f.pins=0)(J:g.pins=0): ∀x∈(m.set i f).set i g,x.pins=0:=by
 intro x I
 rw [wY] at I
 rcases lT I with I | rfl
 ·exact h x I
 ·exact J
theorem rE {π:Pl}{n:Int}{i:Nat}{f:Fm}(hl:lookL n π.bu=some (i:Int))(I:π.ah[i]?=some f)(J:f.pins=1): heldI π n=some i∧unpinF π n=(0,{ π with ah:=π.ah.set i { f with pins:=0 } }):=by
 have h1:heldI π n=some i:=by
  simp only [heldI,hl,bZ,I,J]
  rfl
 refine ⟨h1,?_⟩
 simp only [unpinF,h1,I,J]
 rfl
theorem MV {α:Type}{n:Int}{x:α}{l:List (Int×α)}: lookL n (dc n x l)=some x:=by rw [oU,ax rfl]
theorem eO.at {ε ε':aF}{n:Int}{b:List Nat}(hr:eO ε n 0 b ε')(hp:∀f∈ε.1.ah,f.pins=0):
  ∃(i:Nat) (f:Fm),lookL n ε'.1.bu=some (i:Int)∧ε'.1.ah[i]?=some f∧f.pins=1∧f.b=b∧∀g:Fm,g.pins=0→∀x∈ε'.1.ah.set i g,x.pins=0:=by
 generalize J:(0:Int)=e at hr
 cases hr with
 | arg _=>cases J
 | AF i f h1 h2 hl hf =>
  have hi:=(List.getElem?_eq_some_iff.1 hf).1
  refine ⟨i,{ f with dP:=true,pins:=f.pins+1 },hl,by simp [hi],by have:=hp f (aV hf); show f.pins+1=1; omega,rfl,fun g hg=>Eh hp hg⟩
 | out I i f h1 h2 hl hn hf hh he=>exact absurd J.symm he
 | read I i f h1 h2 hl hn hf hh he hr=>exact absurd J.symm hr
 | bad I i f h1 h2 hl hn hf hh he hr hc=>exact absurd J.symm hc
 | load I i f h1 h2 hl hn hf hh he hr hc =>
  obtain ⟨c,UF⟩:=l9 (ε:=(I,ε.2)) hf
  have hi:=(List.getElem?_eq_some_iff.1 UF).1
  refine ⟨i,⟨n,_,1,true,false⟩,MV,gW (by show i<(List.set _ i _).length; rw [cq]; exact hi),rfl,rfl,fun g hg=>Eh (uC (f:=f) (r9 (ε:=(I,ε.2)) (hn.pins hp))) hg⟩
theorem eO.yM {ε ε':aF}{n:Int}{b:List Nat}(I:eO ε n 0 b ε')(J:∀f∈ε.1.ah,f.pins=0): (unpinF ε'.1 n).1=0∧∀f∈(unpinF ε'.1 n).2.ah,f.pins=0:=by
 obtain ⟨i,f,h1,h2,h3,h4,h5⟩:=I.at J
 rw [(rE h1 h2 h3).2]
 exact ⟨rfl,h5 _ rfl⟩
theorem k9.mE {ε ε':aF}{n e:Int}{b:List Nat}(I:k9 ε n e b ε')(h:iT ε): iT ε':=by
 refine ⟨I.ok h.ok h.pins,?_,?_⟩
 ·cases I with
  | dead _=>exact h.pins
  | gU e b ε' hd I he=>exact I.GY he h.pins
  | qh b ε' hd I he=>exact (I.yM h.pins).2
  | read b ε' hd I he=>exact (I.yM h.pins).2
 ·cases I with
  | dead _=>exact h.full
  | gU e b ε' hd I he=>exact (I.full h.ok.dk h.full).1
  | qh b ε' hd I he=>exact yq (I.full h.ok.dk h.full).1
  | read b ε' hd I he=>exact yq (I.full h.ok.dk h.full).1
theorem k9.len {ε ε':aF}{n:Int}{b:List Nat}(J:k9 ε n 0 b ε')(h:iT ε): b.length=512:=by
 generalize I:(0:Int)=e at J
 cases J with
 | dead _=>cases I
 | gU e b ε' hd J he=>exact absurd I.symm he
 | qh b ε' hd J he=>exact absurd I.symm he
 | read b ε' hd J he=>exact (J.full h.ok.dk h.full).2 rfl
inductive nj (ε:aF)(now:List (Int×List Nat))(bL:Bool)(n:Int): Int→List Nat→aF→Prop where
 | arg (h:¬(0≤n∧n<ε.2.2.bh.length)):nj ε now bL n 1 [] ε
 | bL (h1:0≤n) (h2:n<ε.2.2.bh.length) (h:bL=true):nj ε now bL n 18 [] ε
 | own (b:List Nat) (h1:0≤n) (h2:n<ε.2.2.bh.length) (h:bL=false) (hl:lookL n now=some b):nj ε now bL n 0 b ε
 | read (e:Int) (b:List Nat) (ε':aF) (h1:0≤n) (h2:n<ε.2.2.bh.length) (h:bL=false) (hl:lookL n now=none) (hr:k9 ε n e b ε'):nj ε now bL n e b ε'
theorem nj.mE {ε ε':aF}{now:List (Int×List Nat)}{bL:Bool}{n e:Int}{b:List Nat}(I:nj ε now bL n e b ε')(h:iT ε): iT ε':=by
 cases I with
 | arg _=>exact h
 | bL _ _ _=>exact h
 | own _ _ _ _ _=>exact h
 | read e b ε' J h2 h3 hl I=>exact I.mE h
theorem OpR.invoke {C:b9}{E:List (Nat×V)}{h:H}{o:Oper}{cl:Go.Call}{x:Operand}{m:String}{t:TypeId}{u:V}{k:FuncId}{args:List V}{R:V→H→Prop}(J:o.op=.call cl)(hc:cl.callee=.invoke x m)
 (hx:lookO E x=some (.iface t u))(hm:methV C.P t m=some k)(ha:lookArgs E cl.args.toList=some args)(I:Am.Call C k (u::args) h R): OpR C E h o R:=by
 obtain ⟨v,h₁,⟨N,hN⟩,hr⟩:=I
 exact ⟨v,h₁,hr,fun env hE=>⟨N,by simp only [evOp,J,evCall,jP hE ha,hc,bH hE hx,hm]; exact hN⟩⟩
theorem GZ : methV Tryz.prog 26 "Read" = some 76 := by kernel_rfl
theorem P7 : methV Tryz.prog 24 "Read" = some 113 := by kernel_rfl
theorem TZ {h:H}{t e:TypeId}{x y:Operand}(hu:Tryz.prog.underlying t=some (.pointer e)): binV Tryz.prog h .neq t x y .cO .cO=some (.bool false):=by simp only [binV,eqV,hu]; rfl
theorem T0 {h:H}{t e:TypeId}{x y:Operand}{i o:Nat}(hu:Tryz.prog.underlying t=some (.pointer e)): binV Tryz.prog h .neq t x y (.ptr i o) .cO=some (.bool true):=by simp only [binV,eqV,hu]; rfl
theorem r_ {h:H}{t e:TypeId}{x y:Operand}{i o:Nat}(hu:Tryz.prog.underlying t=some (.pointer e)): binV Tryz.prog h .eql t x y (.ptr i o) .cO=some (.bool false):=by simp only [binV,eqV,hu]; rfl
theorem T1 {h:H}{t e:TypeId}{x y:Operand}{i o:Nat}(hu:Tryz.prog.underlying t=some (.pointer e)): binV Tryz.prog h .eql t x y .cO (.ptr i o)=some (.bool false):=by simp only [binV,eqV,hu]; rfl
theorem T2 {h:H}{t e k:TypeId}{x y:Operand}{i j n m:Nat}{cs ds:List V}(hu:Tryz.prog.underlying t=some (.pointer e))(I:bk Tryz.prog e=some k)(J:1≤k)(hi:T.get h.tr i=some (.cells n cs false))(hj:T.get h.tr j=some (.cells m ds false))(hn:1≤n)(hm:1≤m):
  binV Tryz.prog h .eql t x y (.ptr i 0) (.ptr j 0)=some (.bool (Nat.beq i j)):=by
 simp only [binV,eqV,hu,I,aE.2 J,af,hi,hj,aE.2 hn,aE.2 hm,gK,dn,Bool.and_true,gY]
section
variable {told:cz} {h:H} {S:List aq} {X:aq} {r k q p bQ a g bf:Nat} {op v x wh di:V} {l b data:List Nat} {π:Pl} {m:List Fm} {μ:Lg} {δ:Dk} {now:List (Int×List Nat)} {bL:Bool}
theorem Cv (I:W told)(s:Sat h (dR a p q r .cO data bf::S)): Call ⟨Tryz.prog,told⟩ 45 [.ptr a 0] h fun v h'=>∃g,v=.aX [.ptr g 0,.int .i64 0]∧Sat h' (fy g a [] false::dR a p q r (.ptr g 0) data bf::S):=by
 obtain ⟨dv,s⟩:=cS.1 s
 refine Call.of_wp (I.free _ rfl) Tryz.func45 rfl rfl (zK 10 rfl (zf rfl (qI _ _) (zl rfl (s.ld (k:=0) rfl Ib rfl) (zh rfl (ag rfl rfl (TZ jo)) (rfl) (zk 7 rfl ?_)))))
 refine az.BD s rfl rfl rfl rfl (fun J h s => ?_)
 refine zo rfl (cM rfl (by rw [Ts]; rfl)) ?_
 refine az.cJ s rfl rfl rfl (fR rfl rfl) (fun Z1 h s => ?_)
 refine zn rfl (zf rfl (qI _ _) ?_)
 refine zS rfl (by exact s.iX (k:=2) rfl RT rfl (by decide) rfl rfl) (fun h s => ?_)
 refine zk 5 rfl (zf rfl (qI _ _) (zl rfl (s.ld (k:=2) rfl Ib rfl) (zk 3 rfl (WP.ret ⟨aa,_,rfl,?_⟩))))
 have s1:=ry (f:=fun v (b:List Nat)=>.cy v b) (s.ae [1])
 have s:=dD.2 ⟨_,s1.ae [1]⟩
 exact ⟨_,rfl,(cS.2 ⟨dv,s.ae [1,1,0]⟩).ae [1]⟩
theorem Ei (hT:W told){n:Int}(s:Sat h (fy g a now bL::dR a p q r op data bf::dQ r p q π::cf q p μ::bz p δ::S))(eB:iT (π,μ,δ))(hw:δ.waiting.length≤268435456)(uD:∀e∈now,e.2.length=512):
  Call ⟨Tryz.prog,told⟩ 76 [.ptr g 0,.int .i64 n] h fun v h'=>∃(e:Int) (b:List Nat) (ε:aF),nj (π,μ,δ) now bL n e b ε ∧
   ((e≠0∧v=.aX [.bn,.int .i64 e]∧Sat h' (fy g a now bL::dR a p q r op data bf::dQ r p q ε.1::cf q p ε.2.1::bz p ε.2.2::S)) ∨
    (e=0∧∃u,v=.aX [u,.int .i64 0]∧Sat h' (aU u b::fy g a now bL::dR a p q r op data bf::dQ r p q ε.1::cf q p ε.2.1::bz p ε.2.2::S))):=by
 have s0:=s
 obtain ⟨nv,s⟩:=dD.1 s
 obtain ⟨dv,s⟩:=cS.1 (s.ae [2])
 dsimp only [bringA,getA,aZ] at s
 refine Call.of_wp (hT.free _ rfl) Tryz.func76 rfl rfl (zK 6 rfl (WP.block (zK 3 rfl ?_)))
 refine zd rfl (ag rfl rfl aR) ?_ ?_
 ·intro J
  have J:n<0:=by simpa using J
  exact zk 20 rfl (WP.ret ⟨aa,_,rfl,1,[],_,.arg (by simp only; omega),.inl ⟨by decide,rfl,s0⟩⟩)
 ·intro J
  have J:0≤n:=by simp at J; omega
  refine zk 4 rfl (zf rfl (m_ _ _) (zl rfl (s.ld (k:=2) rfl vG rfl) (zn rfl (zf rfl (xp _ _) (zl rfl (s.ld (k:=0) rfl sD rfl) (zc rfl (yG hT (s.ae [6])) ?_))))))
  rintro v h ⟨rfl,rfl⟩
  refine zd rfl (ag rfl rfl sB) ?_ ?_
  ·intro I
   have I:(δ.bh.length:Int)≤n:=by simpa using I
   exact zk 9 rfl (WP.ret ⟨aa,_,rfl,1,[],_,.arg (by simp only; omega),.inl ⟨by decide,rfl,s0⟩⟩)
  ·intro I
   have I:n<(δ.bh.length:Int):=by simp at I; omega
   refine zk 8 rfl (zf rfl (xn _ _) ?_)
   cases bL with
   | true =>
    exact zt rfl (aS rfl (s.ld (k:=2) rfl nU rfl)) (rfl) (zk 8 rfl (WP.ret ⟨aa,_,rfl,18,[],_,.bL J I rfl,.inl ⟨by decide,rfl,s0⟩⟩))
   | false =>
    refine zh rfl (aS rfl (by exact s.ld (k:=2) rfl nU rfl)) (rfl) ?_
    refine za rfl (zv (zj rfl (WP.skip (zw (zg rfl (zk 2 rfl (zf rfl (oA _ _) (zl rfl (by exact s.ld (k:=2) rfl mF rfl) ?_))))))))
    refine zm rfl ?_
    rcases ng (n:=n) (fun _ _=>aQ.cy _ _) (s.ae [3]) oW bR oz with ⟨g1,g2,_⟩ | ⟨u,b,g1,g2,_,s2⟩
    ·refine az.op rfl rfl rfl (ji rfl rfl g2) ?_
     refine zk 5 rfl (zv (zg rfl (zm rfl (zv (zj rfl (WP.skip (zg rfl (zk 2 rfl (zf rfl (m_ _ _) (zl rfl (by exact s.ld (k:=2) rfl vG rfl) ?_))))))))))
     refine zm rfl (zc rfl (yL (n:=n) hT (s0.ae [1,1,1,1]) eB.ok eB.pins hw) ?_)
     rintro v h ⟨e,b,ε,hr,(⟨he,rfl,s⟩ | ⟨rfl,u,rfl,s⟩)⟩
     ·dsimp only [bringA,getA,aZ] at s
      exact zk 5 rfl (WP.ret ⟨aa,_,rfl,e,b,ε,.read e b ε J I rfl g1 hr,.inl ⟨he,rfl,s.ae [4]⟩⟩)
     ·dsimp only [bringA,getA,aZ] at s
      exact zk 5 rfl (WP.ret ⟨aa,_,rfl,0,b,ε,.read 0 b ε J I rfl g1 hr,.inr ⟨rfl,u,rfl,s.ae [0,4]⟩⟩)
    ·dsimp only [bringA,getA,aZ] at s2
     refine zo rfl (ji rfl rfl g2) (zk 14 rfl ?_)
     have hb:=uD _ (kE g1)
     refine zc rfl (qd hT s2 (c8 _ _) (by simp only at hb; omega)) ?_
     intro v h s
     refine zk 3 rfl (WP.ret ⟨aa,_,rfl,?_⟩)
     have s:=cS.2 ⟨dv,s.ae [3,3,0,0,0,0,0,0,0]⟩
     have s:=dD.2 ⟨nv,s.ae [4,3]⟩
     exact ⟨0,b,_,.own b J I rfl g1,.inr ⟨rfl,v,rfl,((s.ae [2,0,0,1,1,1]).del 6)⟩⟩
end
inductive rF (ε:aF)(now:List (Int×List Nat))(bL:Bool)(n:Int)(b:List Nat): Int→List (Int×List Nat)→aF→Prop where
 | may (e:Int) (c:List Nat) (ε':aF) (hr:nj ε now bL n e c ε') (he:e≠0):rF ε now bL n b e now ε'
 | bad (c:List Nat) (ε':aF) (hr:nj ε now bL n 0 c ε') (hg:bV b=false):rF ε now bL n b 4 now ε'
 | done (c:List Nat) (ε':aF) (hr:nj ε now bL n 0 c ε') (hg:bV b=true):rF ε now bL n b 0 (dc n b now) ε'
theorem rF.mE {ε ε':aF}{now bI:List (Int×List Nat)}{bL:Bool}{n e:Int}{b:List Nat}(I:rF ε now bL n b e bI ε')(h:iT ε): iT ε':=by
 cases I with
 | may e c ε' I he=>exact I.mE h
 | bad c ε' I J=>exact I.mE h
 | done c ε' I J=>exact I.mE h
section
variable {told:cz} {h:H} {S:List aq} {X:aq} {r k q p bQ a g bf:Nat} {op v x wh di:V} {l b data:List Nat} {π:Pl} {m:List Fm} {μ:Lg} {δ:Dk} {now:List (Int×List Nat)} {bL:Bool}
theorem Sj (hT:W told){n:Int}(s:Sat h (fy g a now bL::dR a p q r op data bf::dQ r p q π::cf q p μ::bz p δ::S))(J:iT (π,μ,δ))(hw:δ.waiting.length≤268435456)(I:∀e∈now,e.2.length=512):
  Call ⟨Tryz.prog,told⟩ 106 [.iface 26 (.ptr g 0),.int .i64 n] h fun v h'=>∃(e:Int) (b:List Nat) (ε:aF),nj (π,μ,δ) now bL n e b ε∧v=.int .i64 e ∧
   Sat h' (fy g a now bL::dR a p q r op data bf::dQ r p q ε.1::cf q p ε.2.1::bz p ε.2.2::S):=by
 refine Call.of_wp (hT.free _ rfl) Tryz.func106 rfl rfl (zK 8 rfl (az.any rfl rfl rfl (OpR.invoke rfl rfl rfl GZ rfl (Ei (n:=n) hT s J hw I)) ?_))
 rintro v h ⟨e,b,ε,hr,(⟨he,rfl,s⟩ | ⟨rfl,u,rfl,s⟩)⟩
 ·refine az.op rfl rfl rfl (b8 rfl) ?_
  exact zk 10 rfl (WP.ret ⟨aa,_,rfl,e,b,ε,hr,rfl,s⟩)
 ·skip
  exact zk 11 rfl (WP.ret ⟨aa,_,rfl,0,b,ε,hr,rfl,s.drop⟩)
theorem KM (hT:W told){n:Int}(s:Sat h (fy g a now bL::dR a p q r op data bf::dQ r p q π::cf q p μ::bz p δ::X::S))(hX:cT X (cY x b))(hb:b.length<9223372036854775808)(eB:iT (π,μ,δ))(hw:δ.waiting.length≤268435456)(J:∀e∈now,e.2.length=512):
  Call ⟨Tryz.prog,told⟩ 49 [.ptr g 0,.int .i64 n,x] h fun v h'=>∃(e:Int) (bI:List (Int×List Nat)) (ε:aF),rF (π,μ,δ) now bL n b e bI ε∧v=.int .i64 e ∧
   Sat h' (fy g a bI bL::dR a p q r op data bf::dQ r p q ε.1::cf q p ε.2.1::bz p ε.2.2::X::S):=by
 refine Call.of_wp (hT.free _ rfl) Tryz.func49 rfl rfl (zK 8 rfl (zo rfl (l7 rfl (ko jo rfl)) (zm rfl (zc rfl (Sj (n:=n) hT s eB hw J) ?_))))
 rintro v h ⟨e,c,ε,hr,rfl,s⟩
 refine zk 5 rfl ?_
 by_cases he:e=0
 ·skip
  subst he
  refine zh rfl (ag rfl rfl aI) (rfl) (zk 7 rfl (zc rfl (GP hT (s.ae [5]) hX hb) ?_))
  rintro v h ⟨rfl,s⟩
  refine zo rfl (eY rfl rfl) (zv ?_)
  by_cases I:bV b=true
  ·skip
   refine WP.Oe rfl (by rw [I]; rfl) ?_
   have V_:=g9 I
   obtain ⟨nv,s⟩:=dD.1 (s.ae [1])
   have s:=s.ae [2,0,0]
   obtain ⟨tR,rfl⟩:=DT s (j:=2) rfl
   refine zK 2 rfl ?_
   have s0:=s
   refine WP.drawn [some (0,2),some (0,2),some (0,2),some (0,2),some (0,2),ak,ak,ak] rfl (by kernel_rfl) (by kernel_rfl) ?_
   refine zM rfl (zN rfl (zF rfl (oA _ _) (zL rfl (s.ld (k:=1) rfl mF rfl) (zM rfl (zM rfl (aB.any rfl rfl rfl rfl (OpR.call rfl rfl rfl rfl (qd hT s hX (by omega))) ?_))))))
   intro u h s
   obtain ⟨kD,_,cap,_,rfl,_⟩:=s.eH (by omega)
   have s:=s.gS
   have s1:=s
   refine aB.ki rfl rfl rfl (OpR.mapUpdate rfl rfl rfl rfl (mM (f:=fun v b=>aq.cy v b) (x:=b) (fun _ _=>aQ.cy _ _) (s.ae [0,2]) oW bR)) ?_
   intro w h s
   refine aB.nil ⟨⟨fun _ _=>.inr ⟨rfl,⟨_,b8 rfl⟩,bP _ rfl⟩,fun _ _=>.inr ⟨rfl,⟨_,uo rfl⟩,bP _ rfl⟩,fun _ _=>.inr ⟨rfl,⟨_,nC rfl (oA _ _)⟩,bP _ rfl⟩,eZ (.inr ⟨rfl,⟨_,aS rfl (s0.ld (k:=1) rfl mF rfl)⟩,bP _ rfl⟩) (.inr ⟨rfl,⟨_,aS rfl (s1.ld (k:=2) rfl mF rfl)⟩,bP _ rfl⟩),fun _ _=>.inr ⟨rfl,⟨_,b8 rfl⟩,bP _ rfl⟩,aa,aa,aa,aa⟩,?_⟩
   exact zK 4 rfl (WP.ret ⟨aa,_,rfl,0,_,ε,.done c ε hr I,rfl,dD.2 ⟨.map tR,s.ae [2,0,1,1,1,1,0]⟩⟩)
  ·have I:bV b=false:=by simpa using I
   refine WP.H_ rfl (by rw [I]; rfl) ?_
   exact zK 4 rfl (WP.ret ⟨aa,_,rfl,4,_,ε,.bad c ε hr I,rfl,s.ae [1,1,1,1,1,0]⟩)
 ·skip
  refine zt rfl (ag rfl rfl aI) (by simp; exact he) ?_
  exact zk 7 rfl (WP.ret ⟨aa,_,rfl,e,_,ε,.may e c ε hr he,rfl,s⟩)
theorem Cw (I:W told)(s:Sat h (fy g a now bL::dR a p q r (.ptr g 0) data bf::S)): Call ⟨Tryz.prog,told⟩ 60 [.ptr g 0] h fun v h'=>v=.aX []∧Sat h' (fy g a now true::dR a p q r .cO data bf::S):=by
 obtain ⟨J,s⟩:=dD.1 s
 obtain ⟨dv,s⟩:=cS.1 (s.ae [2])
 refine Call.of_wp (I.free _ rfl) Tryz.func60 rfl rfl (zK 4 rfl (zf rfl (xn _ _) ?_))
 refine zS rfl (by exact s.iX (k:=2) rfl yf rfl (by decide) rfl rfl) (fun h s => ?_)
 refine zk 5 rfl (zf rfl (m_ _ _) (zl rfl (s.ld (k:=2) rfl vG rfl) (zn rfl (zf rfl (qI _ _) (zl rfl (s.ld (k:=0) rfl Ib rfl) (zm rfl (zt rfl (ag rfl rfl (T2 jo Tr (by decide) (s.row (k:=2) rfl) (s.row (k:=2) rfl) (by decide) (by decide))) (dn g) ?_)))))))
 refine zk 5 rfl (zf rfl (m_ _ _) (zl rfl (s.ld (k:=2) rfl vG rfl) (zn rfl (zf rfl (qI _ _) ?_))))
 refine zS rfl (by exact s.iX (k:=0) rfl RT rfl (by decide) rfl rfl) (fun h s => ?_)
 refine zv ?_
 have s:=dD.2 ⟨J,(cS.2 ⟨dv,s⟩).ae [1,1]⟩
 exact ⟨aa,_,rfl,rfl,s⟩
theorem MW (I:W told)(s:Sat h (fy g a now bL::dR a p q r (.ptr g 0) data bf::S)): Call ⟨Tryz.prog,told⟩ 33 [.ptr g 0] h fun v h'=>v=.aX []∧Sat h' (fy g a now true::dR a p q r .cO data bf::S):=by
 refine Call.of_wp (I.free _ rfl) Eg rfl rfl (zK 2 rfl (zc rfl (Cw I s) ?_))
 rintro v h ⟨rfl,s⟩
 exact zv ⟨aa,_,rfl,rfl,s⟩
theorem FP (I:W told)(s:Sat h (fy g a now bL::dR a p q r .cO data bf::S)): Call ⟨Tryz.prog,told⟩ 60 [.ptr g 0] h fun v h'=>v=.aX []∧Sat h' (fy g a now true::dR a p q r .cO data bf::S):=by
 obtain ⟨J,s⟩:=dD.1 s
 obtain ⟨dv,s⟩:=cS.1 (s.ae [2])
 dsimp only [bringA,getA,aZ] at s
 refine Call.of_wp (I.free _ rfl) Tryz.func60 rfl rfl (zK 4 rfl (zf rfl (xn _ _) ?_))
 refine zS rfl (by exact s.iX (k:=2) rfl yf rfl (by decide) rfl rfl) (fun h s => ?_)
 dsimp only [GX,Nat.reduceAdd,List.set,setA] at s
 refine zv (zg rfl (zk 2 rfl (zf rfl (m_ _ _) (zl rfl (by exact s.ld (k:=2) rfl vG rfl) ?_))))
 refine zn rfl (zf rfl (qI _ _) (zl rfl (by exact s.ld (k:=0) rfl Ib rfl) ?_))
 refine zm rfl (zh rfl (ag rfl rfl (T1 jo)) (rfl) (zv (zj rfl (WP.skip ?_))))
 have s:=dD.2 ⟨J,(cS.2 ⟨dv,s⟩).ae [1,1]⟩
 exact ⟨aa,_,rfl,rfl,s⟩
theorem IK (I:W told)(s:Sat h (fy g a now bL::dR a p q r .cO data bf::S)): Call ⟨Tryz.prog,told⟩ 33 [.ptr g 0] h fun v h'=>v=.aX []∧Sat h' (fy g a now true::dR a p q r .cO data bf::S):=by
 refine Call.of_wp (I.free _ rfl) Eg rfl rfl (zK 2 rfl (zc rfl (FP I s) ?_))
 rintro v h ⟨rfl,s⟩
 exact zv ⟨aa,_,rfl,rfl,s⟩
end
end Go.Proofs.YtefepnnfphdkpaaGreat.Am
