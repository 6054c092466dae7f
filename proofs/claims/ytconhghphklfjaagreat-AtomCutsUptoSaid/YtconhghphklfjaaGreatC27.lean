/- AtomCuts: a part of its proof; conditions: its statement's. -/
import Derived.Test.YtconhghphklfjaaGreatC26
namespace Go.Proofs.YtconhghphklfjaaGreat.Am
open Go
theorem zH {b:List Nat}{n:Nat}(I:bU b=true): (cO b n).length=512:=by
 have J:=xj (n:=n) (fA I)
 rw [cO,iJ (by rw [cX]; omega),J]
def jA (π:Pl)(n:Int)(b:List Nat)(aI:Nat): Int×Pl :=
 (if (lH π n b aI).1=0 then (unpinF (lH π n b aI).2 n).1 else (lH π n b aI).1,(unpinF (lH π n b aI).2 n).2)
def uR (π:Pl)(n:Int)(i:Nat)(f:Fm)(b:List Nat)(aI:Nat): Pl :=
 { π with ak:=π.ak.set i { f with b:=cO b aI,changed:=true,pins:=0 },aN:=cM n (dW π n aI,true) π.aN }
theorem xy {π:Pl}{n:Int}{i:Nat}{f:Fm}{b:List Nat}{aI:Nat}(J:lookL n π.aH=some (i:Int))(I:π.ak[i]?=some f)(U:f.pins=1)(hg:bU b=true): jA π n b aI=(0,uR π n i f b aI):=by
 have h1:=(uN J I U).1
 have hi:=(List.getElem?_eq_some_iff.1 I).1
 have e1:lH π n b aI=(0,{ π with ak:=π.ak.set i { f with b:=cO b aI,changed:=true },aN:=cM n (dW π n aI,true) π.aN }):=by
  simp only [lH,h1,I,hg,Bool.true_eq_false,bK]
 have e2:=(uN (π:={ π with ak:=π.ak.set i { f with b:=cO b aI,changed:=true },aN:=cM n (dW π n aI,true) π.aN }) (n:=n) (f:={ f with b:=cO b aI,changed:=true }) J (iO hi) U).2
 simp only [jA,e1,e2,bP,Ap]
 rfl
theorem Om {π:Pl}{n:Int}{i:Nat}{f:Fm}{b:List Nat}{aI:Nat}(J:lookL n π.aH=some (i:Int))(I:π.ak[i]?=some f)(U:f.pins=1)(hg:bU b=false): jA π n b aI=(4,{ π with ak:=π.ak.set i { f with pins:=0 } }):=by
 have h1:=(uN J I U).1
 have e1:lH π n b aI=(4,π):=by simp only [lH,h1,I,hg,bP]
 have e2:=(uN J I U).2
 simp only [jA,e1,e2]
 rfl
theorem TW {π:Pl}{n:Int}{b:List Nat}{aI:Nat}(h:π.Ok): (lH π n b aI).2.Ok:=by
 unfold lH
 split
 ·exact h
 ·split
  ·exact h
  ·rename_i f J
   have hm:=br J
   split
   ·exact h
   ·rename_i I
    have I:bU b=true:=by simpa using I
    exact h.set h.aH (by simp only [zH I]; omega) (h.pins f hm)
theorem fY.put {ε ε':aM}{n:Int}{b0 b:List Nat}{aI:Nat}(hr:fY ε n 0 b0 ε')(h:hG ε): hG ((jA ε'.1 n b aI).2,ε'.2)∧Am.ct ((jA ε'.1 n b aI).2,ε'.2)≤Am.ct ε+1∧(bU b=true→(jA ε'.1 n b aI).1=0):=by
 have I:=hr.ok h.ok h.pins
 have J:=(hr.full h.ok.dk h.full).1
 obtain ⟨i,f,h1,h2,h3,h4,h5⟩:=hr.at h.pins
 have hm:=br h2
 have U:=hr.ct
 cases hg:bU b with
 | true =>
  rw [xy h1 h2 h3 hg]
  refine ⟨⟨⟨I.pl.set I.pl.aH (by simp only [zH hg]; omega) (by simp),I.lg,I.dk⟩,h5 _ rfl,J.set h2 rfl fun _=>zH hg⟩,?_,fun _=>rfl⟩
  have h6:=m6 (g:={ f with b:=cO b aI,changed:=true,pins:=0 }) h2
  simp only [Bool.toNat_true] at h6
  simp only [Am.ct,uR] at U ⊢
  omega
 | false =>
  rw [Om h1 h2 h3 hg]
  refine ⟨⟨⟨I.pl.set I.pl.aH (I.pl.len f hm) (by simp),I.lg,I.dk⟩,h5 _ rfl,J.set h2 rfl fun hl=>hl⟩,?_,fun h=>by cases h⟩
  have h6:=m6 (g:={ f with pins:=0 }) h2
  simp only [Am.ct] at U h6 ⊢
  omega
inductive qz (now:List (Int×List Nat))(aI:Nat): List Int→aM→Int→aM→Prop where
 | nil (ε:aM):qz now aI [] ε 0 ε
 | iZ (n:Int) (l:List Int) (ε:aM) (e:Int) (b:List Nat) (ε':aM) (hr:fY ε n e b ε') (he:e≠0):qz now aI (n::l) ε e ε'
 | bad (n:Int) (l:List Int) (ε:aM) (b0 b:List Nat) (ε':aM) (hr:fY ε n 0 b0 ε') (hb:lookL n now=some b) (he:(jA ε'.1 n b aI).1≠0):qz now aI (n::l) ε (jA ε'.1 n b aI).1 ((jA ε'.1 n b aI).2,ε'.2)
 | put (n:Int) (l:List Int) (ε:aM) (b0 b:List Nat) (ε':aM) (e:Int) (pV:aM) (hr:fY ε n 0 b0 ε') (hb:lookL n now=some b) (he:(jA ε'.1 n b aI).1=0) (ht:qz now aI l ((jA ε'.1 n b aI).2,ε'.2) e pV):qz now aI (n::l) ε e pV
theorem qz.kQ {now:List (Int×List Nat)}{aI:Nat}{l:List Int}{ε ε':aM}{e:Int}(I:qz now aI l ε e ε')(h:hG ε): hG ε':=by
 induction I with
 | nil ε=>exact h
 | iZ n l ε e b ε' I he=>exact ⟨I.ok h.ok h.pins,I.Kr he h.pins,(I.full h.ok.dk h.full).1⟩
 | bad n l ε U b ε' I hb he=>exact (I.put h).1
 | put n l ε U b ε' e J I hb he ht ih=>exact ih (I.put h).1
theorem qz.ct {now:List (Int×List Nat)}{aI:Nat}{l:List Int}{ε ε':aM}{e:Int}(I:qz now aI l ε e ε')(h:hG ε): Am.ct ε'≤Am.ct ε+l.length:=by
 induction I with
 | nil ε=>exact aK _
 | iZ n l ε e b ε' I he=>have:=I.ct; omega
 | bad n l ε U b ε' I hb he=>have:=(I.put (b:=b) (aI:=aI) h).2.1; simp only [bj]; omega
 | put n l ε U b ε' e J I hb he ht ih=>have h1:=ih (I.put h).1; have:=(I.put (b:=b) (aI:=aI) h).2.1; simp only [bj]; omega
theorem X3 {h:H}{id c:Nat}{es:bZ}{n:Int}{u:V}{t kt et:TypeId}{k:IntKind}{z:V}(J:T.get h.tr id=some (.map (es.map ep) c))(he:lookE n es=some u)(hu:Tryz.prog.underlying t=some (.map kt et))(U:Tryz.prog.underlying kt=some (.int k))(hz:zeroT Tryz.prog et=some z):
  fc Tryz.prog h t (.map id) (.int .i64 n) false=some u:=by
 have hi:=pR (n:=n) es 0
 simp only [fc,lookupV,hu,U,hz,J,keyBeq,dD,ag,rB]
 cases I:idxE n es 0 with
 | none=>rw [I] at hi; rw [he] at hi; cases hi
 | some q=>rw [I] at hi; rw [he] at hi; obtain ⟨j,w⟩:=q; have:=bw hi; simp only at this; subst this; rfl
section
variable {told:dH} {h:H} {S:List ax} {X Y:ax} {r k q p bX a g aC:Nat} {op v x u wh di:V} {l b cR data:List Nat} {now:List (Int×List Nat)} {b_:Bool} {ε:aM}
noncomputable def dnL : Code:=cK [1,1,1,1,1,1,1,1,0,1,0,0] ((Tryz.f17.body).getD .skip)
theorem On (hT:W told){ks:List Int}{kv dv:V}{aI wC c:Nat}{es:bZ}(N_:ks.length≤65536)(vh:∀n∈ks,(lookL n now).isSome=true)(mK:∀e∈now,e.2.length=512): ∀(j i:Nat) (ε:aM) (h:H) (E:List (Nat×V)) (Q:Ex→List (Nat×V)→H→Prop),i+j=ks.length →
  hG ε→ct ε+j≤268435456 →
  Sat h (pt g (.cells 3 [.ptr a 0,.map wC,.bool b_] false)::fy wC es c::eu (fun v b=>.cm v b) es now::pt a (.cells 6 (qy a p q r op dv aC) false)::b8 r p q ε.1::bf q p ε.2.1::aD p ε.2.2::.arr 1 kv (eN ks)::S) →
  Has E [(0,.ptr g 0),(6,.ptr a 0),(8,.int .u64 (aI:Int)),(73,kv),(74,.int .i64 ks.length),(75,.int .i64 i)] →
  (∀e ε' E' h',qz now aI (ks.drop i) ε e ε'→e≠0→look E' 4=some (.int .u64 0)→look E' 5=some (.int .i64 e)→Sat h' (pt g (.cells 3 [.ptr a 0,.map wC,.bool b_] false)::fy wC es c::eu (fun v b=>.cm v b) es now::pt a (.cells 6 (qy a p q r op dv aC) false)::b8 r p q ε'.1::bf q p ε'.2.1::aD p ε'.2.2::S)→Q .ret E' h') →
  (∀ε' E' h',qz now aI (ks.drop i) ε 0 ε'→Has E' [(8,.int .u64 (aI:Int))]→Sat h' (pt g (.cells 3 [.ptr a 0,.map wC,.bool b_] false)::fy wC es c::eu (fun v b=>.cm v b) es now::pt a (.cells 6 (qy a p q r op dv aC) false)::b8 r p q ε'.1::bf q p ε'.2.1::aD p ε'.2.2::S)→Q (.exit 1) E' h') →
  WP ⟨Tryz.prog,told⟩ 118 (.loop dnL) E h Q:=by
 intro j
 induction j with
 | zero =>
  intro i ε h E Q hj I hw s hE hr hx
  refine WP.loop (WP.has hE (zg rfl (zh rfl (ah rfl rfl bu) (by simp <;> omega) ?_)))
  refine zk 3 rfl (WP.exit ?_)
  rw [iu (by omega)] at hx
  exact hx ε _ _ (.nil ε) ⟨rfl,aa⟩ (s.del 7)
 | succ j ih =>
  intro i ε h E Q hj I hw s hE hr hx
  have hn:ks[i]?=some (ks[i]'(by omega)):=bh _
  have wT:ks[i]'(by omega)∈ks:=o8 _
  have j8:ks.drop i=ks[i]'(by omega)::ks.drop (i+1):=kR (by omega)
  generalize (ks[i]'(by omega))=n at hn wT j8
  have hc:(eN ks)[i]?=some (.int .i64 n):=by simp [eN,hn]
  obtain ⟨b,hb⟩:=Option.isSome_iff_exists.1 (vh n wT)
  have F9:=mK _ (fh hb)
  simp only at F9
  rw [j8] at hr hx
  obtain ⟨id,off,e1,e2⟩:=kV (P:=Tryz.prog) s (k:=7) rfl hc eC jG
  refine WP.loop (WP.has hE (zg rfl (zt rfl (ah rfl rfl bu) (by simp <;> omega) ?_)))
  refine zk 5 rfl (WP.block (zg rfl (zo rfl (dY (r:=.ptr id off) rfl rfl e1) (zl rfl (e2 _ dr) (zk 7 rfl (zf rfl (ox _ _) (zl rfl (s.ld (k:=3) rfl vz rfl) (zm rfl (zc rfl (N6 (n:=n) hT (s.ae [4,4,4]) I.ok.pl I.pins I.ok.lg I.ok.dk (by have:=mL (ε:=ε); omega)) ?_)))))))))
  rintro v h ⟨e,b0,ε',U,(⟨he,rfl,s⟩ | ⟨rfl,u0,rfl,s⟩)⟩
  ·dsimp only [bringA,getA,aT] at s
   refine zk 9 rfl (zt rfl (ah rfl rfl aX) (by simp; exact he) ?_)
   exact zk 8 rfl (WP.ret (hr e ε' _ _ (.iZ n _ ε e b0 ε' U he) he rfl rfl ((s.ae [3,3,3,3,0,0,0]).del 7)))
  ·dsimp only [bringA,getA,aT] at s
   have s:=s.drop
   have Wg:=U.put (b:=b) (aI:=aI) I
   have lB:=U.ok I.ok I.pins
   refine zk 9 rfl (zh rfl (ah rfl rfl aX) (rfl) (zk 4 rfl ?_))
   have s1:Sat h (eu (fun v b=>.cm v b) es now::_):=s.ae [5]
   obtain ⟨_,_,_,_,q3⟩:=s1.at (k:=0) rfl
   rcases td (n:=n) q3 with ⟨_,q4⟩ | ⟨u,b',g1,g2,_⟩
   ·rw [hb] at q4; cases q4
   rw [hb] at g2
   have:=bw g2
   subst this
   have s2:=(s1.dup (aE.G6 (fun _ _=>aE.cm _ _) _ _)).fP (B:=.cm u b) fun a' b' h'=>by
    rcases td (n:=n) h' with ⟨_,q4⟩ | ⟨u',YI,Zh,Zi,VQ⟩
    ·rw [hb] at q4; cases q4
    ·rw [g1] at Zh; rw [hb] at Zi
     have h5:=bw Zh
     have h6:=bw Zi
     subst h5; subst h6
     exact VQ
   dsimp only [bringA,getA,aT] at s2
   obtain ⟨uid,abP,abQ,rfl⟩:=kC (s2.aG (k:=0) rfl (cJ _ _)) (by omega)
   have s:=s2.ae [2,0]
   dsimp only [bringA,getA,aT] at s
   have s0:=s
   refine WP.drawn [ai,ai,ai,ai,ai,ai,ai,ai,ai,ai,ai,ai,ai,ai] rfl (by kernel_rfl) (by kernel_rfl) ?_
   refine zM rfl (zN rfl (zF rfl (ox _ _) (zL rfl (s.ld (k:=7) rfl vz rfl) (zM rfl (zM rfl (zN rfl (zF rfl (uA _ _) (zL rfl (s.ld (k:=5) rfl l_ rfl) (zM rfl (zO rfl (gM rfl rfl (X3 (s.row (k:=6) rfl) g1 lu bF yK)) (zM rfl (aA.any rfl rfl rfl rfl (OpR.call rfl rfl rfl rfl (TM (n:=n) (aI:=aI) (b:=b) hT s (cJ _ _) lB.pl (by omega))) ?_))))))))))))
   rintro v h ⟨rfl,s⟩
   refine zA rfl ?_
   refine aA.nil ⟨⟨aa,aa,aa,aa,aa,aa,aa,aa,aa,aa,aa,aa,aa,aa,aa⟩,?_⟩
   refine zK 5 rfl (zf rfl (ox _ _) (zl rfl (s.ld (k:=7) rfl vz rfl) (zm rfl (zc rfl (Hw (n:=n) hT s (TW lB.pl)) ?_))))
   rintro v h ⟨rfl,s⟩
   refine zk 5 rfl ?_
   by_cases hg:(lH ε'.1 n b aI).1=0
   ·have Ku:(jA ε'.1 n b aI).1=(unpinF (lH ε'.1 n b aI).2 n).1:=by simp only [jA,hg,bP]
    have Zj:(jA ε'.1 n b aI).2=(unpinF (lH ε'.1 n b aI).2 n).2:=rfl
    rw [←Ku,←Zj] at *
    refine zt rfl (ah rfl rfl cI) (by simp; exact hg) ?_
    refine zk 9 rfl ?_
    by_cases he:(jA ε'.1 n b aI).1=0
    ·skip
     refine zh rfl (ah rfl rfl aX) (by simp; exact he) ?_
     refine zv (zj rfl (WP.skip (zr rfl (zb rfl (by exact bQ (aU (by omega) (by omega))) ?_))))
     refine zm rfl (zv ?_)
     have s9:=(s.ae [5,5,2,4,0,1,1,1]).del 8
     refine ih (i+1) ((jA ε'.1 n b aI).2,ε'.2) _ _ Q (by omega) Wg.1 (by have h9:ct ((jA ε'.1 n b aI).2,ε'.2)≤ct ε+1:=Wg.2.1; omega) s9 ⟨rfl,rfl,rfl,rfl,rfl,rfl,aa⟩ (fun e J E' h' ht xW l4 l5 s' => ?_) (fun J E' h' ht gu s' => ?_)
     ·exact hr e J E' h' (.put n _ ε b0 b ε' e J U hb he ht) xW l4 l5 s'
     ·exact hx J E' h' (.put n _ ε b0 b ε' 0 J U hb he ht) gu s'
    ·skip
     refine zt rfl (ah rfl rfl aX) (by simp; exact he) ?_
     exact zk 8 rfl (WP.ret (hr _ _ _ _ (.bad n _ ε b0 b ε' U hb he) he rfl rfl (((s.ae [5,5,2,4,0,1,1,1]).del 8).del 7)))
   ·have Ku:(jA ε'.1 n b aI).1=(lH ε'.1 n b aI).1:=by simp only [jA,hg,bK]
    have Zj:(jA ε'.1 n b aI).2=(unpinF (lH ε'.1 n b aI).2 n).2:=rfl
    rw [←Ku] at hg
    refine zh rfl (ah rfl rfl cI) (by simp; rw [←Ku]; exact hg) ?_
    refine zk 6 rfl (zt rfl (ah rfl rfl aX) (by simp; rw [←Ku]; exact hg) ?_)
    refine zk 8 rfl (WP.ret (hr _ _ _ _ (.bad n _ ε b0 b ε' U hb hg) hg rfl (by rw [Ku]; rfl) ?_))
    exact ((s.ae [5,5,2,4,0,1,1,1]).del 8).del 7
end
theorem uP.fit {pg:Int}{cR now:List Nat}{i:Nat}{l:List cj}(J:uP pg cR now i l)(hn:now.length=512)(h0:0≤pg)(h1:pg<65536): ∀c∈l,c.Ok∧c.b.length≤512:=by
 induction J with
 | done i h=>intro c I; cases I
 | skip i l h he J U=>exact U
 | take i e l h2 h3 _ _ J U =>
  intro c I
  rcases List.mem_cons.1 I with rfl | I
  ·have hl:((now.take e).drop i).length=e-i:=by simp; omega
   refine ⟨⟨h0,h1,by simp,by simp only; omega,by simp only [hl]; omega,by simp⟩,by simp only [hl]; omega⟩
  ·exact U c I
theorem Fs.fit {pg:Int}{cR now:List Nat}{l:List cj}(U:Fs pg cR now l)(hn:now.length=512)(I:0≤pg)(J:pg<65536): ∀c∈l,c.Ok∧c.b.length≤512:=by
 obtain ⟨m,h2,rfl⟩:=U
 split
 ·intro c hc
  rw [List.mem_singleton.1 hc]
  exact ⟨⟨I,J,by simp,by simp,by simp,by simp⟩,by simp⟩
 ·exact h2.fit hn I J
theorem jr.fit {now:List (Int×List Nat)}{l:List Int}{ε ε':aM}{e:Int}{cs:List cj}(hr:jr now l ε e cs ε')(J:∀x∈now,x.2.length=512)(hl:∀n∈l,0≤n∧n<65536): ∀c∈cs,c.Ok∧c.b.length≤512:=by
 induction hr with
 | nil ε=>intro c hc; cases hc
 | err n l ε e b ε' hr he=>intro c hc; cases hc
 | part n l ε cR b ε' c e cs pV hr U hd hc jY ht ih =>
  intro x I
  have hn:=hl n bn
  rcases List.mem_append.1 I with I | I
  ·exact hc.fit (J _ (fh U)) hn.1 hn.2 x I
  ·exact ih (fun m hm=>hl m (bl _ hm)) x I
 | whole n l ε cR b ε' e cs pV hr U hd ht ih =>
  intro x I
  have hn:=hl n bn
  have U:=J _ (fh U)
  rcases List.mem_cons.1 I with rfl | I
  ·exact ⟨⟨hn.1,hn.2,by simp,by simp,by simp only at U ⊢; omega,fun _=>⟨rfl,U⟩⟩,by simp only at U ⊢; omega⟩
  ·exact ih (fun m hm=>hl m (bl _ hm)) x I
theorem vj : ∀(f n:Nat),(digits f n).length≤f+1:=by
 intro f
 induction f with
 | zero=>intro n; simp [digits]
 | succ f I =>
  intro n
  unfold digits
  split
  ·simp
  ·have:=I (n/128)
   simp only [bj]
   omega
theorem Wh {c:cj}(I:c.b.length≤512): (kK c).length≤543:=by
 have J:=vj 9 c.aO.toNat
 have U:=vj 9 c.pos.toNat
 have h3:=vj 9 c.b.length
 simp only [kK,bA,bj,bY]
 omega
theorem TX : ∀ {l:List cj},(∀c∈l,c.b.length≤512)→(l.flatMap kK).length≤543*l.length:=by
 intro l
 induction l with
 | nil=>intro _; simp
 | cons c l I =>
  intro h
  have U:=Wh (h c bn)
  have h2:=I fun x J=>h x (bl _ J)
  simp only [qP,bA,bj]
  omega
theorem TY {l:List cj}{tx pv nx:Nat}{data:List Nat}(hl:l.length≤33554432)(h:∀c∈l,c.Ok∧c.b.length≤512)(J:tx<18446744073709551616)(U:pv<18446744073709551616)(Fi:nx<18446744073709551616)(hd:data.length≤35184372088832): CZ tx pv nx data l:=by
 have h2:=TX fun c I=>(h c I).2
 refine ⟨⟨by omega,fun c I=>by have:=(h c I).2; omega,fun c I => ?_⟩,J,U,Fi,by omega⟩
 have:=(h c I).1
 simp only [cj.Ok] at this
 omega
theorem HR {l:List cj}{kd:Int}(I:1≤kd∧kd≤9)(h:∀c∈l,c.Ok∧c.b.length≤512): dK kd l=true:=by
 simp only [dK,aY,ej,o_]
 exact ⟨I,fun c J=>(h c J).1⟩
inductive sq (ε:aM)(now:List (Int×List Nat))(kd:Int)(tx pv nx:Nat)(data:List Nat)(pW:Nat): Nat→Int→Bool→aM→Prop where
 | arg (h:¬(1≤kd∧kd≤7)∨0<pW):sq ε now kd tx pv nx data pW 0 1 false ε
 | dead (h1:1≤kd) (h2:kd≤7) (h3:pW=0) (h:ε.2.2.dead=true):sq ε now kd tx pv nx data pW 0 9 false ε
 | mB (e:Int) (c:List cj) (ε':aM) (h1:1≤kd) (h2:kd≤7) (h3:pW=0) (h:ε.2.2.dead=false) (hc:jr now (aJ now) ε e c ε') (he:e≠0):sq ε now kd tx pv nx data pW 0 e false ε'
 | app (c:List cj) (ε':aM) (h1:1≤kd) (h2:kd≤7) (h3:pW=0) (h:ε.2.2.dead=false) (hc:jr now (aJ now) ε 0 c ε') (he:(bp ε'.2 kd tx pv nx data c).1.2≠0):sq ε now kd tx pv nx data pW 0 (bp ε'.2 kd tx pv nx data c).1.2 false (ε'.1,(bp ε'.2 kd tx pv nx data c).2)
 | put (c:List cj) (ε':aM) (e:Int) (pV:aM) (h1:1≤kd) (h2:kd≤7) (h3:pW=0) (h:ε.2.2.dead=false) (hc:jr now (aJ now) ε 0 c ε') (ha:(bp ε'.2 kd tx pv nx data c).1.2=0) (hp:qz now (bp ε'.2 kd tx pv nx data c).1.1 (aJ now) (ε'.1,(bp ε'.2 kd tx pv nx data c).2) e pV) :
   sq ε now kd tx pv nx data pW (if e=0 then (bp ε'.2 kd tx pv nx data c).1.1 else 0) e true pV
structure vk (ε ε':aM): Prop where
 base:ε'.2.1.base=ε.2.1.base
 b:ε'.2.1.b=ε.2.1.b
 bq:ε'.2.1.bq=ε.2.1.bq
 check:ε'.2.1.check=ε.2.1.check
 log:ε'.2.2.log=ε.2.2.log
 room:ε'.2.2.room=ε.2.2.room
 aq:ε'.2.2.aq=ε.2.2.aq
theorem vk.refl (ε:aM): vk ε ε:=⟨rfl,rfl,rfl,rfl,rfl,rfl,rfl⟩
theorem vk.trans {a b c:aM}(x:vk a b)(y:vk b c): vk a c :=
 ⟨y.base.trans x.base,y.b.trans x.b,y.bq.trans x.bq,y.check.trans x.check,y.log.trans x.log,y.room.trans x.room,y.aq.trans x.aq⟩
theorem n4 {δ:Dk}: δ.cE.2.log=δ.log∧δ.cE.2.room=δ.room∧δ.cE.2.aq=δ.aq:=by
 unfold Dk.cE
 split
 ·exact ⟨rfl,rfl,rfl⟩
 ·split <;> exact ⟨rfl,rfl,rfl⟩
theorem xz {δ:Dk}{n:Int}{b:List Nat}: (δ.bI n b).2.log=δ.log∧(δ.bI n b).2.room=δ.room∧(δ.bI n b).2.aq=δ.aq:=by
 unfold Dk.bI
 split
 ·exact ⟨rfl,rfl,rfl⟩
 ·split
  ·exact ⟨rfl,rfl,rfl⟩
  ·split <;> exact ⟨rfl,rfl,rfl⟩
theorem zI {π:Pl}{x:LD}{n:Nat}: vk (π,x) (π,(bC x n).2):=by
 unfold bC
 split
 ·exact vk.refl _
 ·split
  ·exact ⟨rfl,rfl,rfl,rfl,n4.1,n4.2.1,n4.2.2⟩
  ·exact ⟨rfl,rfl,rfl,rfl,n4.1,n4.2.1,n4.2.2⟩
theorem vk.to {π:Pl}{ε ε':aM}(h:vk ε ε'): vk ε (π,ε'.2):=⟨h.base,h.b,h.bq,h.check,h.log,h.room,h.aq⟩
structure kM (R:LD→Prop): Prop where
 force:∀(x:LD) (n:Nat),R x→R (bC x n).2
 write:∀(x:LD) (n:Int) (b:List Nat),R x→R (x.1,(x.2.bI n b).2)
section
variable {R:LD→Prop} {ε ε':aM} {n e:Int} {b:List Nat} {now gP:List (Int×List Nat)} {b_:Bool} {l:List Int} {cs:List cj} {aI:Nat}
theorem kM.out (h:kM R){ε:aM}{i:Nat}(I:R ε.2): R (outF ε i).2.2:=by
 unfold outF
 split
 ·exact I
 ·split
  ·exact I
  ·split
   ·exact I
   ·split
    ·exact h.force _ _ I
    ·split
     ·exact h.write _ _ _ (h.force _ _ I)
     ·exact h.write _ _ _ (h.force _ _ I)
theorem kM.iZ (h:kM R)(U:fY ε n e b ε')(J:R ε.2): R ε'.2:=by
 cases U with
 | arg hn=>exact J
 | Bj i f h1 h2 hl hf=>exact J
 | out I i f h1 h2 hl hn hf hh he=>exact h.out (ε:=(I,ε.2)) J
 | read I i f h1 h2 hl hn hf hh he U=>exact h.out (ε:=(I,ε.2)) J
 | bad I i f h1 h2 hl hn hf hh he U hc=>exact h.out (ε:=(I,ε.2)) J
 | load I i f h1 h2 hl hn hf hh he U hc=>exact h.out (ε:=(I,ε.2)) J
theorem kM.rd (h:kM R)(I:mD ε n e b ε')(J:R ε.2): R ε'.2:=by
 cases I with
 | dead U=>exact J
 | iZ e b ε' U I he=>exact h.iZ I J
 | tq b ε' U I he=>exact h.iZ (ε':=ε') I J
 | read b ε' U I he=>exact h.iZ (ε':=ε') I J
theorem kM.zJ (h:kM R)(J:oB ε now b_ n e b ε')(I:R ε.2): R ε'.2:=by
 cases J with
 | arg hn=>exact I
 | b_ _ _ _=>exact I
 | own b U h2 _ hl=>exact I
 | read e b ε' U h2 _ hl J=>exact h.rd J I
theorem kM.Oo (h:kM R)(I:uO ε now b_ n b e gP ε')(J:R ε.2): R ε'.2:=by
 cases I with
 | may e c ε' I he=>exact h.zJ I J
 | bad c ε' I U=>exact h.zJ I J
 | done c ε' I U=>exact h.zJ I J
theorem kM.ch (h:kM R)(I:jr now l ε e cs ε'): R ε.2→R ε'.2:=by
 induction I with
 | nil ε=>exact fun J=>J
 | err n l ε e b ε' I he=>exact h.rd I
 | part n l ε cR b ε' c e cs U I hb hd hc jY ht ih=>exact fun J=>ih (h.rd I J)
 | whole n l ε cR b ε' e cs U I hb hd ht ih=>exact fun J=>ih (h.rd I J)
theorem kM.pt (h:kM R)(I:qz now aI l ε e ε'): R ε.2→R ε'.2:=by
 induction I with
 | nil ε=>exact fun J=>J
 | iZ n l ε e b ε' I he=>exact h.iZ I
 | bad n l ε b0 b ε' I hb he=>exact h.iZ (ε':=ε') I
 | put n l ε b0 b ε' e U I hb he ht ih=>exact fun J=>ih (h.iZ (ε':=ε') I J)
theorem Oq (ε:aM): kM fun y=>vk ε (ε.1,y) :=
 ⟨fun _ _ h=>h.trans zI,fun _ _ _ h=>h.trans ⟨rfl,rfl,rfl,rfl,xz.1,xz.2.1,xz.2.2⟩⟩
theorem jr.same (I:jr now l ε e cs ε'): vk ε ε':=((Oq ε).ch I (vk.refl ε)).to
end
theorem QT {m:Nat}: ∀ {l:List Nat},l.Pairwise (· < ·)→(∀s∈l,s<m)→l.length≤m:=by
 intro l I J
 have key:∀(l:List Nat) (k:Nat),l.Pairwise (· < ·)→(∀s∈l,k≤s∧s<m)→k+l.length≤m∨l=[]:=by
  intro l
  induction l with
  | nil=>intro k _ _; exact .inr rfl
  | cons x l U =>
   intro k I J
   simp only [oY] at I
   have hx:=J x bn
   rcases U (x+1) I.2 (fun s hs=>⟨I.1 s hs,(J s (bl _ hs)).2⟩) with h | rfl
   ·left; simp only [bj]; omega
   ·left; simp; omega
 rcases key l 0 I (fun s hs=>⟨eU _,J s hs⟩) with h | rfl
 ·omega
 ·simp
theorem iD (x:LD)(kd:Int)(tx pv nx:Nat)(data:List Nat)(c:List cj):
  (∃e:Int,e≠0∧((e=1∧dK kd c=false)∨(e=2∧1048576<(cY kd tx pv nx data c).length)∨(e=9∧x.2.dead=true)∨(e=7∧x.2.room<x.2.log.length+(cN x.1 kd tx pv nx data c).length))∧bp x kd tx pv nx data c=((0,e),x)) ∨
  (x.2.dead=false∧x.2.aF=0∧bp x kd tx pv nx data c=((0,9),(x.1,{ x.2.die with tail:=cN x.1 kd tx pv nx data c }))) ∨
  (dK kd c=true∧(cY kd tx pv nx data c).length≤1048576∧x.2.dead=false∧x.2.log.length+(cN x.1 kd tx pv nx data c).length≤x.2.room∧x.2.aF≠0 ∧
   bp x kd tx pv nx data c=((x.1.base+x.1.b.length,0),(x.1.app (cN x.1 kd tx pv nx data c),{ x.2.c_ with log:=x.2.log++cN x.1 kd tx pv nx data c }))):=by
 by_cases I:dK kd c=false
 ·exact .inl ⟨1,by decide,.inl ⟨rfl,I⟩,by rw [bp,aj I]⟩
 ·by_cases U:1048576<(cY kd tx pv nx data c).length
  ·exact .inl ⟨2,by decide,.inr (.inl ⟨rfl,U⟩),by rw [bp,af I,aj U]⟩
  ·by_cases J:x.2.dead=true
   ·have e:x.2.kD (cN x.1 kd tx pv nx data c)=(9,x.2):=by rw [Dk.kD,aj J]
    exact .inl ⟨9,by decide,.inr (.inr (.inl ⟨rfl,J⟩)),by rw [bp,af I,af U,e,aj (by simp)]⟩
   ·by_cases hr:x.2.room<x.2.log.length+(cN x.1 kd tx pv nx data c).length
    ·have e:x.2.kD (cN x.1 kd tx pv nx data c)=(7,x.2):=by rw [Dk.kD,af J,aj hr]
     exact .inl ⟨7,by decide,.inr (.inr (.inr ⟨rfl,hr⟩)),by rw [bp,af I,af U,e,aj (by simp)]⟩
    ·by_cases hf:x.2.aF=0
     ·have e:x.2.kD (cN x.1 kd tx pv nx data c)=(9,{ x.2.die with tail:=cN x.1 kd tx pv nx data c }):=by rw [Dk.kD,af J,af hr,aj hf]
      exact .inr (.inl ⟨by simpa using J,hf,by rw [bp,af I,af U,e,aj (by simp)]⟩)
     ·have e:x.2.kD (cN x.1 kd tx pv nx data c)=(0,{ x.2.c_ with log:=x.2.log++cN x.1 kd tx pv nx data c }):=by rw [Dk.kD,af J,af hr,af hf]
      exact .inr (.inr ⟨by simpa using I,by omega,by simpa using J,by omega,hf,by rw [bp,af I,af U,e,af (by simp)]⟩)
theorem vD {x:LD}{kd:Int}{tx pv nx:Nat}{data:List Nat}{c:List cj}(J:x.1.Ok)(I:x.2.Ok)(hs:x.1.b=x.2.log)(hz:x.1.base+x.1.b.length+1048584≤1099511627776):
  (bp x kd tx pv nx data c).2.1.Ok∧(bp x kd tx pv nx data c).2.2.Ok∧(bp x kd tx pv nx data c).2.1.b=(bp x kd tx pv nx data c).2.2.log∧(bp x kd tx pv nx data c).2.1.base=x.1.base∧(bp x kd tx pv nx data c).2.1.b.length≤x.1.b.length+1048584 ∧
  (bp x kd tx pv nx data c).2.2.waiting=x.2.waiting∧(bp x kd tx pv nx data c).1.1<1099511627776:=by
 have hlen:(cN x.1 kd tx pv nx data c).length=8+(cY kd tx pv nx data c).length:=mH _ _
 rcases iD x kd tx pv nx data c with ⟨e,_,_,h⟩ | ⟨hd,hf,h⟩ | ⟨hg,hb,hd,U,hf,h⟩
 ·rw [h]; exact ⟨J,I,hs,rfl,tG _ _,rfl,by simp⟩
 ·rw [h]; exact ⟨J,⟨I.aF,I.len,I.room,I.now,I.aq,I.aL,I.many⟩,hs,rfl,tG _ _,rfl,by simp⟩
 ·rw [h]
  generalize cN x.1 kd tx pv nx data c=rc at hlen U
  have abn:=I.room
  have lK:x.1.b.length=x.2.log.length:=by rw [hs]
  have hl:(x.1.b++rc).length=x.1.b.length+rc.length:=bA
  have lI:(x.2.log++rc).length=x.2.log.length+rc.length:=bA
  refine ⟨⟨?_,?_,?_,?_,?_,?_,J.check⟩,⟨I.c_.aF,?_,I.room,I.now,I.aq,?_,I.many⟩,?_,rfl,?_,rfl,?_⟩
  ·show x.1.base+(x.1.b++rc).length≤_; omega
  ·have h1:=QT J.xm J.low
   show (x.1.bq++[x.1.b.length]).length≤_
   simp only [bA,bj,bY]; omega
  ·intro s hm
   show s<(x.1.b++rc).length
   rcases List.mem_append.1 (show s∈x.1.bq++[x.1.b.length] from hm) with hm | hm
   ·have:=J.low s hm; omega
   ·rw [List.mem_singleton.1 hm]; omega
  ·show (x.1.bq++[x.1.b.length]).Pairwise (·< ·)
   rw [List.pairwise_append]
   refine ⟨J.xm,List.pairwise_singleton _ _,fun a ha b hb => ?_⟩
   rw [List.mem_singleton.1 hb]
   exact J.low a ha
  ·have:=J.forced
   show x.1.forced≤(x.1.b++rc).length; omega
  ·show (x.1.b++rc).length≤_; omega
  ·show (x.2.log++rc).length≤_; omega
  ·have:=I.aL
   show x.2.aL≤(x.2.log++rc).length; omega
  ·show x.1.b++rc=x.2.log++rc; rw [hs]
  ·show (x.1.b++rc).length≤_; omega
  ·show x.1.base+x.1.b.length<_; omega
theorem wf_i64 {n:Int}(I:0≤n)(J:n<4294967296): (Lit.int .i64 n).wf=true:=by
 simp only [Lit.wf,aY,ej]
 have U:IntKind.min .i64 = -9223372036854775808:=rfl
 have e2:IntKind.max .i64=9223372036854775807:=rfl
 omega
theorem AO {kd:Int}{tx pv nx:Nat}{dt ch:V}(I:dt.beq dt=true)(J:ch.beq ch=true): (V.agg (iC kd tx pv nx dt ch)).beq (V.agg (iC kd tx pv nx dt ch))=true:=by
 simp only [iC,V.beq,V.beqL,I,J,dD,nU,Aq,iy,ag]
section
variable {told:dH} {h:H} {S:List ax} {X Y:ax} {r k q p bX a g aC:Nat} {op v x u wh di:V} {l b cR data dF:List Nat} {now:List (Int×List Nat)} {b_:Bool} {ε:aM}
theorem TZ (hT:W told){kd:Int}{tx pv nx pW:Nat}{dt ch:V}{Zk:List V}(s:Sat h (gO g a now false::cu a p q r (.ptr g 0) dF aC::b8 r p q ε.1::bf q p ε.2.1::aD p ε.2.2::X::.arr 4 ch Zk::S))(hX:cT X (cU dt data))(Bc:Zk.length=pW*4)(oc:hG ε)(hw:ct ε+65536≤268435456)
 (mK:∀e∈now,e.2.length=512)(hm:now.length≤65536)(hk:∀n∈now.map (·.1),0≤n∧n<65536)(Fh:tx<18446744073709551616)(Y6:pv<18446744073709551616)(Fi:nx<18446744073709551616)(hd:data.length≤35184372088832)(zP:ε.2.1.b=ε.2.2.log)(hz:ε.2.1.base+ε.2.1.b.length+1048584≤1099511627776):
  Call ⟨Tryz.prog,told⟩ 17 [.ptr g 0,.agg (iC kd tx pv nx dt ch)] h fun v h'=>∃aI e cl ε',sq ε now kd tx pv nx data pW aI e cl ε'∧v=.bD [.int .u64 (aI:Int),.int .i64 e] ∧
   Sat h' (gO g a now cl::cu a p q r (cond cl .cF (.ptr g 0)) dF aC::b8 r p q ε'.1::bf q p ε'.2.1::aD p ε'.2.2::X::S):=by
 have mO:∀n∈now.map (·.1),(Lit.int .i64 n).wf=true:=fun n hn=>by
  have:=hk n hn
  exact wf_i64 (by omega) (by omega)
 have jZ:=s.kJ (j:=6) rfl
 have iY:=s.aG (k:=5) rfl hX
 have fW:=mS (kd:=kd) (tx:=tx) (pv:=pv) (nx:=nx) iY.cells.2 jZ.2.1
 have hlen:=s.iK (n:=pW) (j:=6) rfl Bc (by decide) iM
 have s0:=s
 obtain ⟨nv,s⟩:=fC.1 s
 refine Call.of_wp (hT.free _ rfl) Tryz.func17 rfl rfl (zg rfl (aB.cQ s rfl rfl rfl (gC rfl fW) ?_))
 intro p1 h s
 dsimp only [V.cells] at s
 have s:Sat h (pt p1 (.cells 6 (iC kd tx pv nx dt ch) false)::_):=s
 have hlen:=s.iK (n:=pW) (j:=8) rfl Bc (by decide) iM
 refine zk 7 rfl (zf rfl (uz _ _) (zl rfl (s.ld (k:=1) rfl BF rfl) (zk 3 rfl (WP.block (zK 4 rfl (zf rfl (G0 _ _) (zh rfl (aV rfl (s.ld (k:=1) rfl jW rfl)) (rfl) (zk 5 rfl (zf rfl (ux _ _) (zl rfl (s.ld (k:=0) rfl dr rfl) ?_))))))))))
 have fin:∀e:Int,Sat h (gO g a now false::cu a p q r (.ptr g 0) dF aC::b8 r p q ε.1::bf q p ε.2.1::aD p ε.2.2::X::S):=fun e=>((fC.2 ⟨nv,s.ae [1,1]⟩).del 7).del 1
 refine zd rfl (ah rfl rfl bu) ?_ ?_
 ·intro hq
  have hq:kd<1:=by simpa using hq
  exact zk 19 rfl (WP.ret ⟨aa,_,rfl,0,1,false,ε,.arg (.inl (by omega)),rfl,fin 0⟩)
 ·intro hq
  have hq:1≤kd:=by simp at hq; omega
  refine zm rfl (zf rfl (ux _ _) (zl rfl (s.ld (k:=0) rfl dr rfl) ?_))
  refine zd rfl (ah rfl rfl dR) ?_ ?_
  ·intro J
   have J:7<kd:=by simpa using J
   exact zk 15 rfl (WP.ret ⟨aa,_,rfl,0,1,false,ε,.arg (.inl (by omega)),rfl,fin 0⟩)
  ·intro J
   have J:kd≤7:=by simp at J; omega
   refine zk 2 rfl (zf rfl (mR _ _) (zl rfl (s.ld (k:=0) rfl uw rfl) (zo rfl (a_ rfl rfl rfl hlen) ?_)))
   refine zd rfl (ah rfl rfl dR) ?_ ?_
   ·intro I
    have I:0<pW:=by simp at I; omega
    exact zk 9 rfl (WP.ret ⟨aa,_,rfl,0,1,false,ε,.arg (.inr I),rfl,fin 0⟩)
   ·intro I
    have I:pW=0:=by simp at I; omega
    obtain ⟨dv,s⟩:=bM.1 (s.ae [3])
    dsimp only [bringA,getA,aT] at s
    refine zk 8 rfl (zf rfl (r8 _ _) (zl rfl (s.ld (k:=0) rfl jR rfl) (zc rfl (xh hT (s.ae [7])) ?_)))
    rintro v h ⟨rfl,rfl⟩
    refine zk 2 rfl ?_
    cases B8:ε.2.2.dead with
    | true =>
     refine zK 6 rfl (WP.ret ⟨aa,_,rfl,?_⟩)
     have s9:=fC.2 ⟨nv,(bM.2 ⟨dv,s⟩).ae [2,2]⟩
     dsimp only [bringA,getA,aT] at s9
     exact ⟨0,9,false,ε,.dead hq J I B8,rfl,(s9.del 7).del 2⟩
    | false =>
     refine zj rfl (WP.skip (zg rfl (za rfl (zv (zw (zg rfl (zm rfl ?_)))))))
     have s9:=fC.2 ⟨nv,(bM.2 ⟨dv,s⟩).ae [2,2]⟩
     dsimp only [bringA,getA,aT] at s9
     have s:=s9.ae [0,0,1,1,1]
     dsimp only [bringA,getA,aT] at s
     refine zc rfl (LX hT s oc (by omega) mK hm mO) ?_
     rintro v h ⟨e,c,ε',hc,(⟨he,rfl,s⟩ | ⟨rfl,jY,av,cs,rfl,s⟩)⟩
     ·refine aB.op rfl rfl rfl (bk rfl) ?_
      refine zk 2 rfl (zf rfl (mR _ _) ?_)
      refine zS rfl (by exact s.dQ (k:=5) rfl Lq rfl (by decide) rfl rfl) (fun h s => ?_)
      dsimp only [iC,Nat.reduceAdd,List.set,setA] at s
      refine zk 5 rfl (zt rfl (ah rfl rfl aX) (by simp; exact he) ?_)
      exact zk 8 rfl (WP.ret ⟨aa,_,rfl,0,e,false,ε',.mB e c ε' hq J I B8 hc he,rfl,(s.del 7).del 5⟩)
     ·have C8:=s.kJ (j:=0) rfl
      have Da:=hc.kQ oc
      have VX:=hc.ct
      have SB:=hc.same
      have Wi:=vD (x:=ε'.2) (kd:=kd) (tx:=tx) (pv:=pv) (nx:=nx) (data:=data) (c:=c) Da.ok.lg Da.ok.dk (by rw [SB.b,SB.log]; exact zP) (by rw [SB.base,SB.b]; exact hz)
      have iH:=hc.fit mK fun n hn=>hk n ((eB _).mem_iff.1 hn)
      refine zk 3 rfl (zf rfl (mR _ _) (zS rfl (s.dQ (k:=7) rfl Lq rfl (show 0+5<6 by decide) C8.1 C8.2.1) ?_))
      intro h s
      dsimp only [iC,Nat.reduceAdd,List.set,setA] at s
      refine zk 5 rfl (zh rfl (ah rfl rfl aX) (rfl) ?_)
      obtain ⟨dv,s⟩:=bM.1 (s.ae [3])
      dsimp only [bringA,getA,aT] at s
      have s:=s.ae [6,6,7,2,2,0,3]
      dsimp only [bringA,getA,aT] at s
      refine zv (zj rfl (WP.skip (zw ?_)))
      have s0:=s
      have aay:=c8 iY
      have HS:=AO (kd:=kd) (tx:=tx) (pv:=pv) (nx:=nx) aay C8.2.2
      refine WP.drawn [ai,ai,ai,ai,ai,ai,ai,ai,ai,ai,ai] rfl (by kernel_rfl) (by kernel_rfl) ?_
      refine zM rfl (zN rfl (zF rfl (lq _ _) (zL rfl (s.ld (k:=5) rfl nu rfl) (zL rfl (s.fG (k:=6) rfl nt gE) (aA.any rfl rfl rfl rfl (OpR.call rfl rfl rfl rfl (Hu (kd:=kd) (tx:=tx) (pv:=pv) (nx:=nx) hT s hX (TY jY iH Fh Y6 Fi hd) Da.ok.lg Da.ok.dk)) ?_)))))
      rintro v h ⟨rfl,s⟩
      refine zM rfl (zO rfl (cy rfl rfl) (zO rfl (cy rfl rfl) (zA rfl (zA rfl ?_))))
      refine aA.nil ⟨⟨aa,aa,aa,aa,aa,aa,aa,aa,aa,aa,aa,aa⟩,?_⟩
      refine zK 4 rfl ?_
      have s9:=bM.2 ⟨dv,s.ae [5,6]⟩
      have s:=((((s9.ae [7,0,6,0,0,0]).del 9).del 8).del 7).del 6
      by_cases he:(bp ε'.2 kd tx pv nx data c).1.2=0
      ·skip
       refine zh rfl (ah rfl rfl aX) (by simp; exact he) ?_
       refine zk 6 rfl (zc rfl (Fq hT s) ?_)
       rintro v h ⟨rfl,s⟩
       obtain ⟨nv,s⟩:=fC.1 s
       obtain ⟨wC,rfl⟩:=yT s (j:=1) rfl
       refine zk 6 rfl (zf rfl (uA _ _) (zl rfl (s.ld (k:=0) rfl l_ rfl) (zc rfl (xx hT s) ?_)))
       rintro v h ⟨kb,rfl,s⟩
       refine zc rfl (pU hT (s.ae [0,1]) (by decide) (by omega) mO) ?_
       intro kv h s
       have hl:(aJ now).length=now.length:=by rw [aJ,(eB _).length_eq,en]
       refine zo rfl (a_ rfl rfl rfl (s.iK (n:=(aJ now).length) (j:=0) rfl (by simp [eN]) (by decide) eC)) ?_
       refine zk 2 rfl (WP.block ?_)
       obtain ⟨abR,es,clock,QU,hb,nc,s⟩:=eA.1 (s.ae [2])
       injection QU with QU
       subst QU
       obtain ⟨dv,s⟩:=bM.1 (s.ae [5])
       have s:=s.ae [6,2,2,0,3,3,3,1]
       refine On (op:=.cF) (dv:=dv) hT (ks:=aJ now) (now:=now) (aI:=(bp ε'.2 kd tx pv nx data c).1.1) (by omega) (fun n hn => ?_) mK (aJ now).length 0 (ε'.1,(bp ε'.2 kd tx pv nx data c).2) _ _ _ (by omega) ?_ ?_ s ⟨rfl,rfl,rfl,rfl,rfl,rfl,aa⟩ (fun e U E' h' hp xW l4 l5 s' => ?_) (fun U E' h' hp gu s' => ?_)
       ·have:n∈now.map (·.1):=(eB _).mem_iff.1 hn
        cases hq:lookL n now with
        | some _=>rfl
        | none=>exact absurd this (f_.1 hq)
       ·exact ⟨⟨Da.ok.pl,Wi.1,Wi.2.1⟩,Da.pins,Da.full⟩
       ·have e1:ct (ε'.1,(bp ε'.2 kd tx pv nx data c).2)=ct ε':=by simp only [ct,Wi.2.2.2.2.2.1]
        rw [e1,hl]; omega
       ·rw [dS] at hp
        have e4:look E' 4=some (.int .u64 ((0:Nat):Int)):=l4
        refine ⟨aa,_,vC e4 l5,0,e,true,U,?_,rfl,?_⟩
        ·have:=sq.put (data:=data) c ε' e U hq J I B8 hc he hp
         rwa [af xW] at this
        ·have s3:=bM.2 ⟨dv,s'.ae [3,6]⟩
         have s4:=eA.2 ⟨wC,es,clock,rfl,hb,nc,s3.ae [2,2]⟩
         exact fC.2 ⟨.map wC,(s4.ae [2,0,0,0,0,0,1]).del 7⟩
       ·rw [dS] at hp
        have s:=s'
        refine WP.has gu (zK 6 rfl (WP.ret ⟨aa,_,rfl,?_⟩))
        refine ⟨_,0,true,U,?_,rfl,?_⟩
        ·have:=sq.put (data:=data) c ε' 0 U hq J I B8 hc he hp
         exact this
        ·have s3:=bM.2 ⟨dv,s.ae [3,6]⟩
         have s4:=eA.2 ⟨wC,es,clock,rfl,hb,nc,s3.ae [2,2]⟩
         dsimp only [bringA,getA,aT] at s4
         exact fC.2 ⟨.map wC,(s4.ae [2,0,0,0,0,0,1]).del 7⟩
      ·skip
       refine zt rfl (ah rfl rfl aX) (by simp; exact he) ?_
       exact zk 8 rfl (WP.ret ⟨aa,_,rfl,0,_,false,_,.app c ε' hq J I B8 hc he,rfl,s⟩)
end
end Go.Proofs.YtconhghphklfjaaGreat.Am
