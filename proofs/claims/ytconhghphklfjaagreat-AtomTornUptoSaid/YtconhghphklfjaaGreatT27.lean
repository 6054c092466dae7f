/- AtomTorn: a part of its proof; conditions: its statement's. -/
import Derived.Test.YtconhghphklfjaaGreatT26
namespace Go.Proofs.YtconhghphklfjaaGreat.Am
open Go
theorem Ak {b:List Nat}{n:Nat}(I:bT b=true): (cO b n).length=512:=by
 have J:=xD (n:=n) (fy I)
 rw [cO,iO (by rw [cR]; omega),J]
def jF (π:Pl)(n:Int)(b:List Nat)(aK:Nat): Int×Pl :=
 (if (lW π n b aK).1=0 then (unpinF (lW π n b aK).2 n).1 else (lW π n b aK).1,(unpinF (lW π n b aK).2 n).2)
def uW (π:Pl)(n:Int)(i:Nat)(f:Fm)(b:List Nat)(aK:Nat): Pl :=
 { π with ak:=π.ak.set i { f with b:=cO b aK,changed:=true,pins:=0 },aN:=cN n (cL π n aK,true) π.aN }
theorem xN {π:Pl}{n:Int}{i:Nat}{f:Fm}{b:List Nat}{aK:Nat}(J:lookL n π.aE=some (i:Int))(I:π.ak[i]?=some f)(U:f.pins=1)(hg:bT b=true): jF π n b aK=(0,uW π n i f b aK):=by
 have h1:=(uS J I U).1
 have hi:=(List.getElem?_eq_some_iff.1 I).1
 have e1:lW π n b aK=(0,{ π with ak:=π.ak.set i { f with b:=cO b aK,changed:=true },aN:=cN n (cL π n aK,true) π.aN }):=by
  simp only [lW,h1,I,hg,Bool.true_eq_false,bN]
 have e2:=(uS (π:={ π with ak:=π.ak.set i { f with b:=cO b aK,changed:=true },aN:=cN n (cL π n aK,true) π.aN }) (n:=n) (f:={ f with b:=cO b aK,changed:=true }) J (iT hi) U).2
 simp only [jF,e1,e2,bQ,AQ]
 rfl
theorem OM {π:Pl}{n:Int}{i:Nat}{f:Fm}{b:List Nat}{aK:Nat}(J:lookL n π.aE=some (i:Int))(I:π.ak[i]?=some f)(U:f.pins=1)(hg:bT b=false): jF π n b aK=(4,{ π with ak:=π.ak.set i { f with pins:=0 } }):=by
 have h1:=(uS J I U).1
 have e1:lW π n b aK=(4,π):=by simp only [lW,h1,I,hg,bQ]
 have e2:=(uS J I U).2
 simp only [jF,e1,e2]
 rfl
theorem Un {π:Pl}{n:Int}{b:List Nat}{aK:Nat}(h:π.Ok): (lW π n b aK).2.Ok:=by
 unfold lW
 split
 ·exact h
 ·split
  ·exact h
  ·rename_i f J
   have hm:=bw J
   split
   ·exact h
   ·rename_i I
    have I:bT b=true:=by simpa using I
    exact h.set h.aE (by simp only [Ak I]; omega) (h.pins f hm)
theorem gn.put {ε ε':aO}{n:Int}{b0 b:List Nat}{aK:Nat}(hr:gn ε n 0 b0 ε')(h:gW ε): gW ((jF ε'.1 n b aK).2,ε'.2)∧Am.cm ((jF ε'.1 n b aK).2,ε'.2)≤Am.cm ε+1∧(bT b=true→(jF ε'.1 n b aK).1=0):=by
 have I:=hr.ok h.ok h.pins
 have J:=(hr.full h.ok.dk h.full).1
 obtain ⟨i,f,h1,h2,h3,h4,h5⟩:=hr.at h.pins
 have hm:=bw h2
 have U:=hr.cm
 cases hg:bT b with
 | true =>
  rw [xN h1 h2 h3 hg]
  refine ⟨⟨⟨I.pl.set I.pl.aE (by simp only [Ak hg]; omega) (by simp),I.lg,I.dk⟩,h5 _ rfl,J.set h2 rfl fun _=>Ak hg⟩,?_,fun _=>rfl⟩
  have h6:=nf (g:={ f with b:=cO b aK,changed:=true,pins:=0 }) h2
  simp only [Bool.toNat_true] at h6
  simp only [Am.cm,uW] at U ⊢
  omega
 | false =>
  rw [OM h1 h2 h3 hg]
  refine ⟨⟨⟨I.pl.set I.pl.aE (I.pl.len f hm) (by simp),I.lg,I.dk⟩,h5 _ rfl,J.set h2 rfl fun hl=>hl⟩,?_,fun h=>by cases h⟩
  have h6:=nf (g:={ f with pins:=0 }) h2
  simp only [Am.cm] at U h6 ⊢
  omega
inductive qK (now:List (Int×List Nat))(aK:Nat): List Int→aO→Int→aO→Prop where
 | nil (ε:aO):qK now aK [] ε 0 ε
 | jf (n:Int) (l:List Int) (ε:aO) (e:Int) (b:List Nat) (ε':aO) (hr:gn ε n e b ε') (he:e≠0):qK now aK (n::l) ε e ε'
 | bad (n:Int) (l:List Int) (ε:aO) (b0 b:List Nat) (ε':aO) (hr:gn ε n 0 b0 ε') (hb:lookL n now=some b) (he:(jF ε'.1 n b aK).1≠0):qK now aK (n::l) ε (jF ε'.1 n b aK).1 ((jF ε'.1 n b aK).2,ε'.2)
 | put (n:Int) (l:List Int) (ε:aO) (b0 b:List Nat) (ε':aO) (e:Int) (qg:aO) (hr:gn ε n 0 b0 ε') (hb:lookL n now=some b) (he:(jF ε'.1 n b aK).1=0) (ht:qK now aK l ((jF ε'.1 n b aK).2,ε'.2) e qg):qK now aK (n::l) ε e qg
theorem qK.lp {now:List (Int×List Nat)}{aK:Nat}{l:List Int}{ε ε':aO}{e:Int}(I:qK now aK l ε e ε')(h:gW ε): gW ε':=by
 induction I with
 | nil ε=>exact h
 | jf n l ε e b ε' I he=>exact ⟨I.ok h.ok h.pins,I.KG he h.pins,(I.full h.ok.dk h.full).1⟩
 | bad n l ε U b ε' I hb he=>exact (I.put h).1
 | put n l ε U b ε' e J I hb he ht ih=>exact ih (I.put h).1
theorem qK.cm {now:List (Int×List Nat)}{aK:Nat}{l:List Int}{ε ε':aO}{e:Int}(I:qK now aK l ε e ε')(h:gW ε): Am.cm ε'≤Am.cm ε+l.length:=by
 induction I with
 | nil ε=>exact aI _
 | jf n l ε e b ε' I he=>have:=I.cm; omega
 | bad n l ε U b ε' I hb he=>have:=(I.put (b:=b) (aK:=aK) h).2.1; simp only [bl]; omega
 | put n l ε U b ε' e J I hb he ht ih=>have h1:=ih (I.put h).1; have:=(I.put (b:=b) (aK:=aK) h).2.1; simp only [bl]; omega
theorem YH {h:H}{id c:Nat}{es:bX}{n:Int}{u:V}{t kt et:TypeId}{k:IntKind}{z:V}(J:T.get h.tr id=some (.map (es.map eB) c))(he:lookE n es=some u)(hu:Tryz.prog.underlying t=some (.map kt et))(U:Tryz.prog.underlying kt=some (.int k))(hz:zeroT Tryz.prog et=some z):
  fq Tryz.prog h t (.map id) (.int .i64 n) false=some u:=by
 have hi:=qa (n:=n) es 0
 simp only [fq,lookupV,hu,U,hz,J,keyBeq,dK,ag,rM]
 cases I:idxE n es 0 with
 | none=>rw [I] at hi; rw [he] at hi; cases hi
 | some q=>rw [I] at hi; rw [he] at hi; obtain ⟨j,w⟩:=q; have:=bx hi; simp only at this; subst this; rfl
section
variable {told:dM} {h:H} {S:List ax} {X Y:ax} {r k q p bW a g aC:Nat} {op v x u wh di:V} {l b cV data:List Nat} {now:List (Int×List Nat)} {b9:Bool} {ε:aO}
noncomputable def dnL : Code:=cM [1,1,1,1,1,1,1,1,0,1,0,0] ((Tryz.f17.body).getD .skip)
theorem ON (hT:W told){ks:List Int}{kv dv:V}{aK wO c:Nat}{es:bX}(OA:ks.length≤65536)(sU:∀n∈ks,(lookL n now).isSome=true)(nM:∀e∈now,e.2.length=512): ∀(j i:Nat) (ε:aO) (h:H) (E:List (Nat×V)) (Q:Ex→List (Nat×V)→H→Prop),i+j=ks.length →
  gW ε→cm ε+j≤268435456 →
  Sat h (pt g (.cells 3 [.ptr a 0,.map wO,.bool b9] false)::fG wO es c::eD (fun v b=>.ct v b) es now::pt a (.cells 6 (qJ a p q r op dv aC) false)::cj r p q ε.1::bh q p ε.2.1::aG p ε.2.2::.arr 1 kv (eT ks)::S) →
  Has E [(0,.ptr g 0),(6,.ptr a 0),(8,.int .u64 (aK:Int)),(73,kv),(74,.int .i64 ks.length),(75,.int .i64 i)] →
  (∀e ε' E' h',qK now aK (ks.drop i) ε e ε'→e≠0→look E' 4=some (.int .u64 0)→look E' 5=some (.int .i64 e)→Sat h' (pt g (.cells 3 [.ptr a 0,.map wO,.bool b9] false)::fG wO es c::eD (fun v b=>.ct v b) es now::pt a (.cells 6 (qJ a p q r op dv aC) false)::cj r p q ε'.1::bh q p ε'.2.1::aG p ε'.2.2::S)→Q .ret E' h') →
  (∀ε' E' h',qK now aK (ks.drop i) ε 0 ε'→Has E' [(8,.int .u64 (aK:Int))]→Sat h' (pt g (.cells 3 [.ptr a 0,.map wO,.bool b9] false)::fG wO es c::eD (fun v b=>.ct v b) es now::pt a (.cells 6 (qJ a p q r op dv aC) false)::cj r p q ε'.1::bh q p ε'.2.1::aG p ε'.2.2::S)→Q (.exit 1) E' h') →
  WP ⟨Tryz.prog,told⟩ 118 (.loop dnL) E h Q:=by
 intro j
 induction j with
 | zero =>
  intro i ε h E Q hj I hw s hE hr hx
  refine WP.loop (WP.has hE (zg rfl (zh rfl (ah rfl rfl bB) (by simp <;> omega) ?_)))
  refine zk 3 rfl (WP.exit ?_)
  rw [iB (by omega)] at hx
  exact hx ε _ _ (.nil ε) ⟨rfl,aa⟩ (s.del 7)
 | succ j ih =>
  intro i ε h E Q hj I hw s hE hr hx
  have hn:ks[i]?=some (ks[i]'(by omega)):=bg _
  have xh:ks[i]'(by omega)∈ks:=pI _
  have jD:ks.drop i=ks[i]'(by omega)::ks.drop (i+1):=lq (by omega)
  generalize (ks[i]'(by omega))=n at hn xh jD
  have hc:(eT ks)[i]?=some (.int .i64 n):=by simp [eT,hn]
  obtain ⟨b,hb⟩:=Option.isSome_iff_exists.1 (sU n xh)
  have Gq:=nM _ (fC hb)
  simp only at Gq
  rw [jD] at hr hx
  obtain ⟨id,off,e1,e2⟩:=lC (P:=Tryz.prog) s (k:=7) rfl hc eH jK
  refine WP.loop (WP.has hE (zg rfl (zt rfl (ah rfl rfl bB) (by simp <;> omega) ?_)))
  refine zk 5 rfl (WP.block (zg rfl (zo rfl (ej (r:=.ptr id off) rfl rfl e1) (zl rfl (e2 _ dA) (zk 7 rfl (zf rfl (oN _ _) (zl rfl (s.ld (k:=3) rfl vF rfl) (zm rfl (zc rfl (Ov (n:=n) hT (s.ae [4,4,4]) I.ok.pl I.pins I.ok.lg I.ok.dk (by have:=lX (ε:=ε); omega)) ?_)))))))))
  rintro v h ⟨e,b0,ε',U,(⟨he,rfl,s⟩ | ⟨rfl,u0,rfl,s⟩)⟩
  ·dsimp only [bringA,getA,aU] at s
   refine zk 9 rfl (zt rfl (ah rfl rfl aV) (by simp; exact he) ?_)
   exact zk 8 rfl (WP.ret (hr e ε' _ _ (.jf n _ ε e b0 ε' U he) he rfl rfl ((s.ae [3,3,3,3,0,0,0]).del 7)))
  ·dsimp only [bringA,getA,aU] at s
   have s:=s.drop
   have WL:=U.put (b:=b) (aK:=aK) I
   have kV:=U.ok I.ok I.pins
   refine zk 9 rfl (zh rfl (ah rfl rfl aV) (rfl) (zk 4 rfl ?_))
   have s1:Sat h (eD (fun v b=>.ct v b) es now::_):=s.ae [5]
   obtain ⟨_,_,_,_,q3⟩:=s1.at (k:=0) rfl
   rcases tj (n:=n) q3 with ⟨_,q4⟩ | ⟨u,b',g1,g2,_⟩
   ·rw [hb] at q4; cases q4
   rw [hb] at g2
   have:=bx g2
   subst this
   have s2:=(s1.dup (aH.Hr (fun _ _=>aH.ct _ _) _ _)).fY (B:=.ct u b) fun a' b' h'=>by
    rcases tj (n:=n) h' with ⟨_,q4⟩ | ⟨u',Zo,ZW,ZX,Wi⟩
    ·rw [hb] at q4; cases q4
    ·rw [g1] at ZW; rw [hb] at ZX
     have h5:=bx ZW
     have h6:=bx ZX
     subst h5; subst h6
     exact Wi
   dsimp only [bringA,getA,aU] at s2
   obtain ⟨uid,acp,acq,rfl⟩:=kN (s2.aL (k:=0) rfl (cJ _ _)) (by omega)
   have s:=s2.ae [2,0]
   dsimp only [bringA,getA,aU] at s
   have s0:=s
   refine WP.drawn [ai,ai,ai,ai,ai,ai,ai,ai,ai,ai,ai,ai,ai,ai] rfl (by kernel_rfl) (by kernel_rfl) ?_
   refine zM rfl (zN rfl (zF rfl (oN _ _) (zL rfl (s.ld (k:=7) rfl vF rfl) (zM rfl (zM rfl (zN rfl (zF rfl (uF _ _) (zL rfl (s.ld (k:=5) rfl mB rfl) (zM rfl (zO rfl (gT rfl rfl (YH (s.row (k:=6) rfl) g1 lN bG zC)) (zM rfl (aA.any rfl rfl rfl rfl (OpR.call rfl rfl rfl rfl (Ud (n:=n) (aK:=aK) (b:=b) hT s (cJ _ _) kV.pl (by omega))) ?_))))))))))))
   rintro v h ⟨rfl,s⟩
   refine zA rfl ?_
   refine aA.nil ⟨⟨aa,aa,aa,aa,aa,aa,aa,aa,aa,aa,aa,aa,aa,aa,aa⟩,?_⟩
   refine zK 5 rfl (zf rfl (oN _ _) (zl rfl (s.ld (k:=7) rfl vF rfl) (zm rfl (zc rfl (HN (n:=n) hT s (Un kV.pl)) ?_))))
   rintro v h ⟨rfl,s⟩
   refine zk 5 rfl ?_
   by_cases hg:(lW ε'.1 n b aK).1=0
   ·have KJ:(jF ε'.1 n b aK).1=(unpinF (lW ε'.1 n b aK).2 n).1:=by simp only [jF,hg,bQ]
    have OO:(jF ε'.1 n b aK).2=(unpinF (lW ε'.1 n b aK).2 n).2:=rfl
    rw [←KJ,←OO] at *
    refine zt rfl (ah rfl rfl cB) (by simp; exact hg) ?_
    refine zk 9 rfl ?_
    by_cases he:(jF ε'.1 n b aK).1=0
    ·skip
     refine zh rfl (ah rfl rfl aV) (by simp; exact he) ?_
     refine zv (zj rfl (WP.skip (zr rfl (zb rfl (by exact bU (aY (by omega) (by omega))) ?_))))
     refine zm rfl (zv ?_)
     have s9:=(s.ae [5,5,2,4,0,1,1,1]).del 8
     refine ih (i+1) ((jF ε'.1 n b aK).2,ε'.2) _ _ Q (by omega) WL.1 (by have h9:cm ((jF ε'.1 n b aK).2,ε'.2)≤cm ε+1:=WL.2.1; omega) s9 ⟨rfl,rfl,rfl,rfl,rfl,rfl,aa⟩ (fun e J E' h' ht ym l4 l5 s' => ?_) (fun J E' h' ht iH s' => ?_)
     ·exact hr e J E' h' (.put n _ ε b0 b ε' e J U hb he ht) ym l4 l5 s'
     ·exact hx J E' h' (.put n _ ε b0 b ε' 0 J U hb he ht) iH s'
    ·skip
     refine zt rfl (ah rfl rfl aV) (by simp; exact he) ?_
     exact zk 8 rfl (WP.ret (hr _ _ _ _ (.bad n _ ε b0 b ε' U hb he) he rfl rfl (((s.ae [5,5,2,4,0,1,1,1]).del 8).del 7)))
   ·have KJ:(jF ε'.1 n b aK).1=(lW ε'.1 n b aK).1:=by simp only [jF,hg,bN]
    have OO:(jF ε'.1 n b aK).2=(unpinF (lW ε'.1 n b aK).2 n).2:=rfl
    rw [←KJ] at hg
    refine zh rfl (ah rfl rfl cB) (by simp; rw [←KJ]; exact hg) ?_
    refine zk 6 rfl (zt rfl (ah rfl rfl aV) (by simp; rw [←KJ]; exact hg) ?_)
    refine zk 8 rfl (WP.ret (hr _ _ _ _ (.bad n _ ε b0 b ε' U hb hg) hg rfl (by rw [KJ]; rfl) ?_))
    exact ((s.ae [5,5,2,4,0,1,1,1]).del 8).del 7
end
theorem uU.fit {pg:Int}{cV now:List Nat}{i:Nat}{l:List cn}(J:uU pg cV now i l)(hn:now.length=512)(h0:0≤pg)(h1:pg<65536): ∀c∈l,c.Ok∧c.b.length≤512:=by
 induction J with
 | done i h=>intro c I; cases I
 | skip i l h he J U=>exact U
 | take i e l h2 h3 _ _ J U =>
  intro c I
  rcases List.mem_cons.1 I with rfl | I
  ·have hl:((now.take e).drop i).length=e-i:=by simp; omega
   refine ⟨⟨h0,h1,by simp,by simp only; omega,by simp only [hl]; omega,by simp⟩,by simp only [hl]; omega⟩
  ·exact U c I
theorem FI.fit {pg:Int}{cV now:List Nat}{l:List cn}(U:FI pg cV now l)(hn:now.length=512)(I:0≤pg)(J:pg<65536): ∀c∈l,c.Ok∧c.b.length≤512:=by
 obtain ⟨m,h2,rfl⟩:=U
 split
 ·intro c hc
  rw [List.mem_singleton.1 hc]
  exact ⟨⟨I,J,by simp,by simp,by simp,by simp⟩,by simp⟩
 ·exact h2.fit hn I J
theorem jx.fit {now:List (Int×List Nat)}{l:List Int}{ε ε':aO}{e:Int}{cs:List cn}(hr:jx now l ε e cs ε')(J:∀x∈now,x.2.length=512)(hl:∀n∈l,0≤n∧n<65536): ∀c∈cs,c.Ok∧c.b.length≤512:=by
 induction hr with
 | nil ε=>intro c hc; cases hc
 | err n l ε e b ε' hr he=>intro c hc; cases hc
 | part n l ε cV b ε' c e cs qg hr U hd hc kg ht ih =>
  intro x I
  have hn:=hl n br
  rcases List.mem_append.1 I with I | I
  ·exact hc.fit (J _ (fC U)) hn.1 hn.2 x I
  ·exact ih (fun m hm=>hl m (bp _ hm)) x I
 | whole n l ε cV b ε' e cs qg hr U hd ht ih =>
  intro x I
  have hn:=hl n br
  have U:=J _ (fC U)
  rcases List.mem_cons.1 I with rfl | I
  ·exact ⟨⟨hn.1,hn.2,by simp,by simp,by simp only at U ⊢; omega,fun _=>⟨rfl,U⟩⟩,by simp only at U ⊢; omega⟩
  ·exact ih (fun m hm=>hl m (bp _ hm)) x I
theorem vp : ∀(f n:Nat),(digits f n).length≤f+1:=by
 intro f
 induction f with
 | zero=>intro n; simp [digits]
 | succ f I =>
  intro n
  unfold digits
  split
  ·simp
  ·have:=I (n/128)
   simp only [bl]
   omega
theorem WM {c:cn}(I:c.b.length≤512): (kW c).length≤543:=by
 have J:=vp 9 c.aM.toNat
 have U:=vp 9 c.pos.toNat
 have h3:=vp 9 c.b.length
 simp only [kW,bC,bl,bY]
 omega
theorem Uo : ∀ {l:List cn},(∀c∈l,c.b.length≤512)→(l.flatMap kW).length≤543*l.length:=by
 intro l
 induction l with
 | nil=>intro _; simp
 | cons c l I =>
  intro h
  have U:=WM (h c br)
  have h2:=I fun x J=>h x (bp _ J)
  simp only [q_,bC,bl]
  omega
theorem Up {l:List cn}{tx pv nx:Nat}{data:List Nat}(hl:l.length≤33554432)(h:∀c∈l,c.Ok∧c.b.length≤512)(J:tx<18446744073709551616)(U:pv<18446744073709551616)(FB:nx<18446744073709551616)(hd:data.length≤35184372088832): Df tx pv nx data l:=by
 have h2:=Uo fun c I=>(h c I).2
 refine ⟨⟨by omega,fun c I=>by have:=(h c I).2; omega,fun c I => ?_⟩,J,U,FB,by omega⟩
 have:=(h c I).1
 simp only [cn.Ok] at this
 omega
theorem Ib {l:List cn}{kd:Int}(I:1≤kd∧kd≤9)(h:∀c∈l,c.Ok∧c.b.length≤512): dU kd l=true:=by
 simp only [dU,aZ,dZ,pK]
 exact ⟨I,fun c J=>(h c J).1⟩
inductive sD (ε:aO)(now:List (Int×List Nat))(kd:Int)(tx pv nx:Nat)(data:List Nat)(qh:Nat): Nat→Int→Bool→aO→Prop where
 | arg (h:¬(1≤kd∧kd≤7)∨0<qh):sD ε now kd tx pv nx data qh 0 1 false ε
 | dead (h1:1≤kd) (h2:kd≤7) (h3:qh=0) (h:ε.2.2.dead=true):sD ε now kd tx pv nx data qh 0 9 false ε
 | mD (e:Int) (c:List cn) (ε':aO) (h1:1≤kd) (h2:kd≤7) (h3:qh=0) (h:ε.2.2.dead=false) (hc:jx now (aF now) ε e c ε') (he:e≠0):sD ε now kd tx pv nx data qh 0 e false ε'
 | app (c:List cn) (ε':aO) (h1:1≤kd) (h2:kd≤7) (h3:qh=0) (h:ε.2.2.dead=false) (hc:jx now (aF now) ε 0 c ε') (he:(bq ε'.2 kd tx pv nx data c).1.2≠0):sD ε now kd tx pv nx data qh 0 (bq ε'.2 kd tx pv nx data c).1.2 false (ε'.1,(bq ε'.2 kd tx pv nx data c).2)
 | put (c:List cn) (ε':aO) (e:Int) (qg:aO) (h1:1≤kd) (h2:kd≤7) (h3:qh=0) (h:ε.2.2.dead=false) (hc:jx now (aF now) ε 0 c ε') (ha:(bq ε'.2 kd tx pv nx data c).1.2=0) (hp:qK now (bq ε'.2 kd tx pv nx data c).1.1 (aF now) (ε'.1,(bq ε'.2 kd tx pv nx data c).2) e qg) :
   sD ε now kd tx pv nx data qh (if e=0 then (bq ε'.2 kd tx pv nx data c).1.1 else 0) e true qg
structure vq (ε ε':aO): Prop where
 base:ε'.2.1.base=ε.2.1.base
 b:ε'.2.1.b=ε.2.1.b
 bu:ε'.2.1.bu=ε.2.1.bu
 check:ε'.2.1.check=ε.2.1.check
 log:ε'.2.2.log=ε.2.2.log
 room:ε'.2.2.room=ε.2.2.room
 aq:ε'.2.2.aq=ε.2.2.aq
theorem vq.refl (ε:aO): vq ε ε:=⟨rfl,rfl,rfl,rfl,rfl,rfl,rfl⟩
theorem vq.trans {a b c:aO}(x:vq a b)(y:vq b c): vq a c :=
 ⟨y.base.trans x.base,y.b.trans x.b,y.bu.trans x.bu,y.check.trans x.check,y.log.trans x.log,y.room.trans x.room,y.aq.trans x.aq⟩
theorem ou {δ:Dk}: δ.cg.2.log=δ.log∧δ.cg.2.room=δ.room∧δ.cg.2.aq=δ.aq:=by
 unfold Dk.cg
 split
 ·exact ⟨rfl,rfl,rfl⟩
 ·split <;> exact ⟨rfl,rfl,rfl⟩
theorem xO {δ:Dk}{n:Int}{b:List Nat}: (δ.bk n b).2.log=δ.log∧(δ.bk n b).2.room=δ.room∧(δ.bk n b).2.aq=δ.aq:=by
 unfold Dk.bk
 split
 ·exact ⟨rfl,rfl,rfl⟩
 ·split
  ·exact ⟨rfl,rfl,rfl⟩
  ·split <;> exact ⟨rfl,rfl,rfl⟩
theorem Al {π:Pl}{x:LD}{n:Nat}: vq (π,x) (π,(aT x n).2):=by
 unfold aT
 split
 ·exact vq.refl _
 ·split
  ·exact ⟨rfl,rfl,rfl,rfl,ou.1,ou.2.1,ou.2.2⟩
  ·exact ⟨rfl,rfl,rfl,rfl,ou.1,ou.2.1,ou.2.2⟩
theorem vq.to {π:Pl}{ε ε':aO}(h:vq ε ε'): vq ε (π,ε'.2):=⟨h.base,h.b,h.bu,h.check,h.log,h.room,h.aq⟩
structure kY (R:LD→Prop): Prop where
 force:∀(x:LD) (n:Nat),R x→R (aT x n).2
 write:∀(x:LD) (n:Int) (b:List Nat),R x→R (x.1,(x.2.bk n b).2)
section
variable {R:LD→Prop} {ε ε':aO} {n e:Int} {b:List Nat} {now gX:List (Int×List Nat)} {b9:Bool} {l:List Int} {cs:List cn} {aK:Nat}
theorem kY.out (h:kY R){ε:aO}{i:Nat}(I:R ε.2): R (outF ε i).2.2:=by
 unfold outF
 split
 ·exact I
 ·split
  ·exact I
  ·split
   ·exact I
   ·split
    ·exact h.force _ _ I
    ·split
     ·exact h.write _ _ _ (h.force _ _ I)
     ·exact h.write _ _ _ (h.force _ _ I)
theorem kY.jf (h:kY R)(U:gn ε n e b ε')(J:R ε.2): R ε'.2:=by
 cases U with
 | arg hn=>exact J
 | BF i f h1 h2 hl hf=>exact J
 | out I i f h1 h2 hl hn hf hh he=>exact h.out (ε:=(I,ε.2)) J
 | read I i f h1 h2 hl hn hf hh he U=>exact h.out (ε:=(I,ε.2)) J
 | bad I i f h1 h2 hl hn hf hh he U hc=>exact h.out (ε:=(I,ε.2)) J
 | load I i f h1 h2 hl hn hf hh he U hc=>exact h.out (ε:=(I,ε.2)) J
theorem kY.rd (h:kY R)(I:mP ε n e b ε')(J:R ε.2): R ε'.2:=by
 cases I with
 | dead U=>exact J
 | jf e b ε' U I he=>exact h.jf I J
 | tw b ε' U I he=>exact h.jf (ε':=ε') I J
 | read b ε' U I he=>exact h.jf (ε':=ε') I J
theorem kY.An (h:kY R)(J:oQ ε now b9 n e b ε')(I:R ε.2): R ε'.2:=by
 cases J with
 | arg hn=>exact I
 | b9 _ _ _=>exact I
 | own b U h2 _ hl=>exact I
 | read e b ε' U h2 _ hl J=>exact h.rd J I
theorem kY.OP (h:kY R)(I:uT ε now b9 n b e gX ε')(J:R ε.2): R ε'.2:=by
 cases I with
 | may e c ε' I he=>exact h.An I J
 | bad c ε' I U=>exact h.An I J
 | done c ε' I U=>exact h.An I J
theorem kY.ch (h:kY R)(I:jx now l ε e cs ε'): R ε.2→R ε'.2:=by
 induction I with
 | nil ε=>exact fun J=>J
 | err n l ε e b ε' I he=>exact h.rd I
 | part n l ε cV b ε' c e cs U I hb hd hc kg ht ih=>exact fun J=>ih (h.rd I J)
 | whole n l ε cV b ε' e cs U I hb hd ht ih=>exact fun J=>ih (h.rd I J)
theorem kY.pt (h:kY R)(I:qK now aK l ε e ε'): R ε.2→R ε'.2:=by
 induction I with
 | nil ε=>exact fun J=>J
 | jf n l ε e b ε' I he=>exact h.jf I
 | bad n l ε b0 b ε' I hb he=>exact h.jf (ε':=ε') I
 | put n l ε b0 b ε' e U I hb he ht ih=>exact fun J=>ih (h.jf (ε':=ε') I J)
theorem OQ (ε:aO): kY fun y=>vq ε (ε.1,y) :=
 ⟨fun _ _ h=>h.trans Al,fun _ _ _ h=>h.trans ⟨rfl,rfl,rfl,rfl,xO.1,xO.2.1,xO.2.2⟩⟩
theorem jx.same (I:jx now l ε e cs ε'): vq ε ε':=((OQ ε).ch I (vq.refl ε)).to
end
theorem Rc {m:Nat}: ∀ {l:List Nat},l.Pairwise (· < ·)→(∀s∈l,s<m)→l.length≤m:=by
 intro l I J
 have key:∀(l:List Nat) (k:Nat),l.Pairwise (· < ·)→(∀s∈l,k≤s∧s<m)→k+l.length≤m∨l=[]:=by
  intro l
  induction l with
  | nil=>intro k _ _; exact .inr rfl
  | cons x l U =>
   intro k I J
   simp only [pG] at I
   have hx:=J x br
   rcases U (x+1) I.2 (fun s hs=>⟨I.1 s hs,(J s (bp _ hs)).2⟩) with h | rfl
   ·left; simp only [bl]; omega
   ·left; simp; omega
 rcases key l 0 I (fun s hs=>⟨eM _,J s hs⟩) with h | rfl
 ·omega
 ·simp
theorem ju (x:LD)(kd:Int)(tx pv nx:Nat)(data:List Nat)(c:List cn):
  (∃e:Int,e≠0∧((e=1∧dU kd c=false)∨(e=2∧1048576<(dB kd tx pv nx data c).length)∨(e=9∧x.2.dead=true)∨(e=7∧x.2.room<x.2.log.length+(dy x.1 kd tx pv nx data c).length))∧bq x kd tx pv nx data c=((0,e),x)) ∨
  (x.2.dead=false∧x.2.aD=0∧bq x kd tx pv nx data c=((0,9),(x.1,{ x.2.die with tail:=dy x.1 kd tx pv nx data c }))) ∨
  (dU kd c=true∧(dB kd tx pv nx data c).length≤1048576∧x.2.dead=false∧x.2.log.length+(dy x.1 kd tx pv nx data c).length≤x.2.room∧x.2.aD≠0 ∧
   bq x kd tx pv nx data c=((x.1.base+x.1.b.length,0),(x.1.app (dy x.1 kd tx pv nx data c),{ x.2.c9 with log:=x.2.log++dy x.1 kd tx pv nx data c }))):=by
 by_cases I:dU kd c=false
 ·exact .inl ⟨1,by decide,.inl ⟨rfl,I⟩,by rw [bq,aj I]⟩
 ·by_cases U:1048576<(dB kd tx pv nx data c).length
  ·exact .inl ⟨2,by decide,.inr (.inl ⟨rfl,U⟩),by rw [bq,af I,aj U]⟩
  ·by_cases J:x.2.dead=true
   ·have e:x.2.kO (dy x.1 kd tx pv nx data c)=(9,x.2):=by rw [Dk.kO,aj J]
    exact .inl ⟨9,by decide,.inr (.inr (.inl ⟨rfl,J⟩)),by rw [bq,af I,af U,e,aj (by simp)]⟩
   ·by_cases hr:x.2.room<x.2.log.length+(dy x.1 kd tx pv nx data c).length
    ·have e:x.2.kO (dy x.1 kd tx pv nx data c)=(7,x.2):=by rw [Dk.kO,af J,aj hr]
     exact .inl ⟨7,by decide,.inr (.inr (.inr ⟨rfl,hr⟩)),by rw [bq,af I,af U,e,aj (by simp)]⟩
    ·by_cases hf:x.2.aD=0
     ·have e:x.2.kO (dy x.1 kd tx pv nx data c)=(9,{ x.2.die with tail:=dy x.1 kd tx pv nx data c }):=by rw [Dk.kO,af J,af hr,aj hf]
      exact .inr (.inl ⟨by simpa using J,hf,by rw [bq,af I,af U,e,aj (by simp)]⟩)
     ·have e:x.2.kO (dy x.1 kd tx pv nx data c)=(0,{ x.2.c9 with log:=x.2.log++dy x.1 kd tx pv nx data c }):=by rw [Dk.kO,af J,af hr,af hf]
      exact .inr (.inr ⟨by simpa using I,by omega,by simpa using J,by omega,hf,by rw [bq,af I,af U,e,af (by simp)]⟩)
theorem vK {x:LD}{kd:Int}{tx pv nx:Nat}{data:List Nat}{c:List cn}(J:x.1.Ok)(I:x.2.Ok)(hs:x.1.b=x.2.log)(hz:x.1.base+x.1.b.length+1048584≤1099511627776):
  (bq x kd tx pv nx data c).2.1.Ok∧(bq x kd tx pv nx data c).2.2.Ok∧(bq x kd tx pv nx data c).2.1.b=(bq x kd tx pv nx data c).2.2.log∧(bq x kd tx pv nx data c).2.1.base=x.1.base∧(bq x kd tx pv nx data c).2.1.b.length≤x.1.b.length+1048584 ∧
  (bq x kd tx pv nx data c).2.2.waiting=x.2.waiting∧(bq x kd tx pv nx data c).1.1<1099511627776:=by
 have hlen:(dy x.1 kd tx pv nx data c).length=8+(dB kd tx pv nx data c).length:=rN _ _
 rcases ju x kd tx pv nx data c with ⟨e,_,_,h⟩ | ⟨hd,hf,h⟩ | ⟨hg,hb,hd,U,hf,h⟩
 ·rw [h]; exact ⟨J,I,hs,rfl,tH _ _,rfl,by simp⟩
 ·rw [h]; exact ⟨J,⟨I.aD,I.len,I.room,I.now,I.aq,I.aJ,I.many⟩,hs,rfl,tH _ _,rfl,by simp⟩
 ·rw [h]
  generalize dy x.1 kd tx pv nx data c=rc at hlen U
  have abS:=I.room
  have lK:x.1.b.length=x.2.log.length:=by rw [hs]
  have hl:(x.1.b++rc).length=x.1.b.length+rc.length:=bC
  have kx:(x.2.log++rc).length=x.2.log.length+rc.length:=bC
  refine ⟨⟨?_,?_,?_,?_,?_,?_,J.check⟩,⟨I.c9.aD,?_,I.room,I.now,I.aq,?_,I.many⟩,?_,rfl,?_,rfl,?_⟩
  ·show x.1.base+(x.1.b++rc).length≤_; omega
  ·have h1:=Rc J.xF J.low
   show (x.1.bu++[x.1.b.length]).length≤_
   simp only [bC,bl,bY]; omega
  ·intro s hm
   show s<(x.1.b++rc).length
   rcases List.mem_append.1 (show s∈x.1.bu++[x.1.b.length] from hm) with hm | hm
   ·have:=J.low s hm; omega
   ·rw [List.mem_singleton.1 hm]; omega
  ·show (x.1.bu++[x.1.b.length]).Pairwise (·< ·)
   rw [List.pairwise_append]
   refine ⟨J.xF,List.pairwise_singleton _ _,fun a ha b hb => ?_⟩
   rw [List.mem_singleton.1 hb]
   exact J.low a ha
  ·have:=J.forced
   show x.1.forced≤(x.1.b++rc).length; omega
  ·show (x.1.b++rc).length≤_; omega
  ·show (x.2.log++rc).length≤_; omega
  ·have:=I.aJ
   show x.2.aJ≤(x.2.log++rc).length; omega
  ·show x.1.b++rc=x.2.log++rc; rw [hs]
  ·show (x.1.b++rc).length≤_; omega
  ·show x.1.base+x.1.b.length<_; omega
theorem wf_i64 {n:Int}(I:0≤n)(J:n<4294967296): (Lit.int .i64 n).wf=true:=by
 simp only [Lit.wf,aZ,dZ]
 have U:IntKind.min .i64 = -9223372036854775808:=rfl
 have e2:IntKind.max .i64=9223372036854775807:=rfl
 omega
theorem Bd {kd:Int}{tx pv nx:Nat}{dt ch:V}(I:dt.beq dt=true)(J:ch.beq ch=true): (V.agg (iI kd tx pv nx dt ch)).beq (V.agg (iI kd tx pv nx dt ch))=true:=by
 simp only [iI,V.beq,V.beqL,I,J,dK,og,AR,iD,ag]
section
variable {told:dM} {h:H} {S:List ax} {X Y:ax} {r k q p bW a g aC:Nat} {op v x u wh di:V} {l b cV data eo:List Nat} {now:List (Int×List Nat)} {b9:Bool} {ε:aO}
theorem Uq (hT:W told){kd:Int}{tx pv nx qh:Nat}{dt ch:V}{ZY:List V}(s:Sat h (gV g a now false::cC a p q r (.ptr g 0) eo aC::cj r p q ε.1::bh q p ε.2.1::aG p ε.2.2::X::.arr 4 ch ZY::S))(hX:cU X (cY dt data))(yt:ZY.length=qh*4)(nt:gW ε)(hw:cm ε+65536≤268435456)
 (nM:∀e∈now,e.2.length=512)(hm:now.length≤65536)(hk:∀n∈now.map (·.1),0≤n∧n<65536)(Kx:tx<18446744073709551616)(ZL:pv<18446744073709551616)(FB:nx<18446744073709551616)(hd:data.length≤35184372088832)(Ao:ε.2.1.b=ε.2.2.log)(hz:ε.2.1.base+ε.2.1.b.length+1048584≤1099511627776):
  Call ⟨Tryz.prog,told⟩ 17 [.ptr g 0,.agg (iI kd tx pv nx dt ch)] h fun v h'=>∃aK e cl ε',sD ε now kd tx pv nx data qh aK e cl ε'∧v=.bE [.int .u64 (aK:Int),.int .i64 e] ∧
   Sat h' (gV g a now cl::cC a p q r (cond cl .cK (.ptr g 0)) eo aC::cj r p q ε'.1::bh q p ε'.2.1::aG p ε'.2.2::X::S):=by
 have mV:∀n∈now.map (·.1),(Lit.int .i64 n).wf=true:=fun n hn=>by
  have:=hk n hn
  exact wf_i64 (by omega) (by omega)
 have ki:=s.kU (j:=6) rfl
 have j5:=s.aL (k:=5) rfl hX
 have gF:=mZ (kd:=kd) (tx:=tx) (pv:=pv) (nx:=nx) j5.cells.2 ki.2.1
 have hlen:=s.iP (n:=qh) (j:=6) rfl yt (by decide) iR
 have s0:=s
 obtain ⟨nv,s⟩:=fI.1 s
 refine Call.of_wp (hT.free _ rfl) Tryz.func17 rfl rfl (zg rfl (aB.cT s rfl rfl rfl (gL rfl gF) ?_))
 intro p1 h s
 dsimp only [V.cells] at s
 have s:Sat h (pt p1 (.cells 6 (iI kd tx pv nx dt ch) false)::_):=s
 have hlen:=s.iP (n:=qh) (j:=8) rfl yt (by decide) iR
 refine zk 7 rfl (zf rfl (uE _ _) (zl rfl (s.ld (k:=1) rfl BY rfl) (zk 3 rfl (WP.block (zK 4 rfl (zf rfl (Hj _ _) (zh rfl (aW rfl (s.ld (k:=1) rfl ke rfl)) (rfl) (zk 5 rfl (zf rfl (uC _ _) (zl rfl (s.ld (k:=0) rfl dA rfl) ?_))))))))))
 have fin:∀e:Int,Sat h (gV g a now false::cC a p q r (.ptr g 0) eo aC::cj r p q ε.1::bh q p ε.2.1::aG p ε.2.2::X::S):=fun e=>((fI.2 ⟨nv,s.ae [1,1]⟩).del 7).del 1
 refine zd rfl (ah rfl rfl bB) ?_ ?_
 ·intro hq
  have hq:kd<1:=by simpa using hq
  exact zk 19 rfl (WP.ret ⟨aa,_,rfl,0,1,false,ε,.arg (.inl (by omega)),rfl,fin 0⟩)
 ·intro hq
  have hq:1≤kd:=by simp at hq; omega
  refine zm rfl (zf rfl (uC _ _) (zl rfl (s.ld (k:=0) rfl dA rfl) ?_))
  refine zd rfl (ah rfl rfl ep) ?_ ?_
  ·intro J
   have J:7<kd:=by simpa using J
   exact zk 15 rfl (WP.ret ⟨aa,_,rfl,0,1,false,ε,.arg (.inl (by omega)),rfl,fin 0⟩)
  ·intro J
   have J:kd≤7:=by simp at J; omega
   refine zk 2 rfl (zf rfl (mY _ _) (zl rfl (s.ld (k:=0) rfl uB rfl) (zo rfl (bf rfl rfl rfl hlen) ?_)))
   refine zd rfl (ah rfl rfl ep) ?_ ?_
   ·intro I
    have I:0<qh:=by simp at I; omega
    exact zk 9 rfl (WP.ret ⟨aa,_,rfl,0,1,false,ε,.arg (.inr I),rfl,fin 0⟩)
   ·intro I
    have I:qh=0:=by simp at I; omega
    obtain ⟨dv,s⟩:=bL.1 (s.ae [3])
    dsimp only [bringA,getA,aU] at s
    refine zk 8 rfl (zf rfl (qA _ _) (zl rfl (s.ld (k:=0) rfl jL rfl) (zc rfl (xC hT (s.ae [7])) ?_)))
    rintro v h ⟨rfl,rfl⟩
    refine zk 2 rfl ?_
    cases yQ:ε.2.2.dead with
    | true =>
     refine zK 6 rfl (WP.ret ⟨aa,_,rfl,?_⟩)
     have s9:=fI.2 ⟨nv,(bL.2 ⟨dv,s⟩).ae [2,2]⟩
     dsimp only [bringA,getA,aU] at s9
     exact ⟨0,9,false,ε,.dead hq J I yQ,rfl,(s9.del 7).del 2⟩
    | false =>
     refine zj rfl (WP.skip (zg rfl (za rfl (zv (zw (zg rfl (zm rfl ?_)))))))
     have s9:=fI.2 ⟨nv,(bL.2 ⟨dv,s⟩).ae [2,2]⟩
     dsimp only [bringA,getA,aU] at s9
     have s:=s9.ae [0,0,1,1,1]
     dsimp only [bringA,getA,aU] at s
     refine zc rfl (Mi hT s nt (by omega) nM hm mV) ?_
     rintro v h ⟨e,c,ε',hc,(⟨he,rfl,s⟩ | ⟨rfl,kg,av,cs,rfl,s⟩)⟩
     ·refine aB.op rfl rfl rfl (bn rfl) ?_
      refine zk 2 rfl (zf rfl (mY _ _) ?_)
      refine zS rfl (by exact s.ee (k:=5) rfl LN rfl (by decide) rfl rfl) (fun h s => ?_)
      dsimp only [iI,Nat.reduceAdd,List.set,setA] at s
      refine zk 5 rfl (zt rfl (ah rfl rfl aV) (by simp; exact he) ?_)
      exact zk 8 rfl (WP.ret ⟨aa,_,rfl,0,e,false,ε',.mD e c ε' hq J I yQ hc he,rfl,(s.del 7).del 5⟩)
     ·have Dp:=s.kU (j:=0) rfl
      have Ds:=hc.lp nt
      have hcp:=hc.cm
      have SZ:=hc.same
      have WN:=vK (x:=ε'.2) (kd:=kd) (tx:=tx) (pv:=pv) (nx:=nx) (data:=data) (c:=c) Ds.ok.lg Ds.ok.dk (by rw [SZ.b,SZ.log]; exact Ao) (by rw [SZ.base,SZ.b]; exact hz)
      have jq:=hc.fit nM fun n hn=>hk n ((eG _).mem_iff.1 hn)
      refine zk 3 rfl (zf rfl (mY _ _) (zS rfl (s.ee (k:=7) rfl LN rfl (show 0+5<6 by decide) Dp.1 Dp.2.1) ?_))
      intro h s
      dsimp only [iI,Nat.reduceAdd,List.set,setA] at s
      refine zk 5 rfl (zh rfl (ah rfl rfl aV) (rfl) ?_)
      obtain ⟨dv,s⟩:=bL.1 (s.ae [3])
      dsimp only [bringA,getA,aU] at s
      have s:=s.ae [6,6,7,2,2,0,3]
      dsimp only [bringA,getA,aU] at s
      refine zv (zj rfl (WP.skip (zw ?_)))
      have s0:=s
      have aaX:=dc j5
      have Ic:=Bd (kd:=kd) (tx:=tx) (pv:=pv) (nx:=nx) aaX Dp.2.2
      refine WP.drawn [ai,ai,ai,ai,ai,ai,ai,ai,ai,ai,ai] rfl (by kernel_rfl) (by kernel_rfl) ?_
      refine zM rfl (zN rfl (zF rfl (lM _ _) (zL rfl (s.ld (k:=5) rfl nF rfl) (zL rfl (s.fM (k:=6) rfl nE gM) (aA.any rfl rfl rfl rfl (OpR.call rfl rfl rfl rfl (HK (kd:=kd) (tx:=tx) (pv:=pv) (nx:=nx) hT s hX (Up kg jq Kx ZL FB hd) Ds.ok.lg Ds.ok.dk)) ?_)))))
      rintro v h ⟨rfl,s⟩
      refine zM rfl (zO rfl (cA rfl rfl) (zO rfl (cA rfl rfl) (zA rfl (zA rfl ?_))))
      refine aA.nil ⟨⟨aa,aa,aa,aa,aa,aa,aa,aa,aa,aa,aa,aa⟩,?_⟩
      refine zK 4 rfl ?_
      have s9:=bL.2 ⟨dv,s.ae [5,6]⟩
      have s:=((((s9.ae [7,0,6,0,0,0]).del 9).del 8).del 7).del 6
      by_cases he:(bq ε'.2 kd tx pv nx data c).1.2=0
      ·skip
       refine zh rfl (ah rfl rfl aV) (by simp; exact he) ?_
       refine zk 6 rfl (zc rfl (FH hT s) ?_)
       rintro v h ⟨rfl,s⟩
       obtain ⟨nv,s⟩:=fI.1 s
       obtain ⟨wO,rfl⟩:=zQ s (j:=1) rfl
       refine zk 6 rfl (zf rfl (uF _ _) (zl rfl (s.ld (k:=0) rfl mB rfl) (zc rfl (xM hT s) ?_)))
       rintro v h ⟨kb,rfl,s⟩
       refine zc rfl (qf hT (s.ae [0,1]) (by decide) (by omega) mV) ?_
       intro kv h s
       have hl:(aF now).length=now.length:=by rw [aF,(eG _).length_eq,eu]
       refine zo rfl (bf rfl rfl rfl (s.iP (n:=(aF now).length) (j:=0) rfl (by simp [eT]) (by decide) eH)) ?_
       refine zk 2 rfl (WP.block ?_)
       obtain ⟨acr,es,clock,Re,hb,nk,s⟩:=eF.1 (s.ae [2])
       injection Re with Re
       subst Re
       obtain ⟨dv,s⟩:=bL.1 (s.ae [5])
       have s:=s.ae [6,2,2,0,3,3,3,1]
       refine ON (op:=.cK) (dv:=dv) hT (ks:=aF now) (now:=now) (aK:=(bq ε'.2 kd tx pv nx data c).1.1) (by omega) (fun n hn => ?_) nM (aF now).length 0 (ε'.1,(bq ε'.2 kd tx pv nx data c).2) _ _ _ (by omega) ?_ ?_ s ⟨rfl,rfl,rfl,rfl,rfl,rfl,aa⟩ (fun e U E' h' hp ym l4 l5 s' => ?_) (fun U E' h' hp iH s' => ?_)
       ·have:n∈now.map (·.1):=(eG _).mem_iff.1 hn
        cases hq:lookL n now with
        | some _=>rfl
        | none=>exact absurd this (fD.1 hq)
       ·exact ⟨⟨Ds.ok.pl,WN.1,WN.2.1⟩,Ds.pins,Ds.full⟩
       ·have e1:cm (ε'.1,(bq ε'.2 kd tx pv nx data c).2)=cm ε':=by simp only [cm,WN.2.2.2.2.2.1]
        rw [e1,hl]; omega
       ·rw [d_] at hp
        have e4:look E' 4=some (.int .u64 ((0:Nat):Int)):=l4
        refine ⟨aa,_,vJ e4 l5,0,e,true,U,?_,rfl,?_⟩
        ·have:=sD.put (data:=data) c ε' e U hq J I yQ hc he hp
         rwa [af ym] at this
        ·have s3:=bL.2 ⟨dv,s'.ae [3,6]⟩
         have s4:=eF.2 ⟨wO,es,clock,rfl,hb,nk,s3.ae [2,2]⟩
         exact fI.2 ⟨.map wO,(s4.ae [2,0,0,0,0,0,1]).del 7⟩
       ·rw [d_] at hp
        have s:=s'
        refine WP.has iH (zK 6 rfl (WP.ret ⟨aa,_,rfl,?_⟩))
        refine ⟨_,0,true,U,?_,rfl,?_⟩
        ·have:=sD.put (data:=data) c ε' 0 U hq J I yQ hc he hp
         exact this
        ·have s3:=bL.2 ⟨dv,s.ae [3,6]⟩
         have s4:=eF.2 ⟨wO,es,clock,rfl,hb,nk,s3.ae [2,2]⟩
         dsimp only [bringA,getA,aU] at s4
         exact fI.2 ⟨.map wO,(s4.ae [2,0,0,0,0,0,1]).del 7⟩
      ·skip
       refine zt rfl (ah rfl rfl aV) (by simp; exact he) ?_
       exact zk 8 rfl (WP.ret ⟨aa,_,rfl,0,_,false,_,.app c ε' hq J I yQ hc he,rfl,s⟩)
end
end Go.Proofs.YtconhghphklfjaaGreat.Am
