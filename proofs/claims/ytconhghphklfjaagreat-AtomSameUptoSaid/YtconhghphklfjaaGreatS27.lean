/- AtomSame: a part of its proof; conditions: its statement's. -/
import Derived.Test.YtconhghphklfjaaGreatS26
namespace Go.Proofs.YtconhghphklfjaaGreat.Am
open Go
theorem yZ {b:List Nat}{n:Nat}(I:bU b=true): (cM b n).length=512:=by
 have J:=wV (n:=n) (fq I)
 rw [cM,iG (by rw [dH]; omega),J]
def js (π:Pl)(n:Int)(b:List Nat)(aF:Nat): Int×Pl :=
 (if (lF π n b aF).1=0 then (unpinF (lF π n b aF).2 n).1 else (lF π n b aF).1,(unpinF (lF π n b aF).2 n).2)
def uy (π:Pl)(n:Int)(i:Nat)(f:Fm)(b:List Nat)(aF:Nat): Pl :=
 { π with ak:=π.ak.set i { f with b:=cM b aF,changed:=true,pins:=0 },aQ:=cK n (dW π n aF,true) π.aQ }
theorem xb {π:Pl}{n:Int}{i:Nat}{f:Fm}{b:List Nat}{aF:Nat}(J:lookL n π.aH=some (i:Int))(I:π.ak[i]?=some f)(U:f.pins=1)(hg:bU b=true): js π n b aF=(0,uy π n i f b aF):=by
 have h1:=(uu J I U).1
 have hi:=(List.getElem?_eq_some_iff.1 I).1
 have e1:lF π n b aF=(0,{ π with ak:=π.ak.set i { f with b:=cM b aF,changed:=true },aQ:=cK n (dW π n aF,true) π.aQ }):=by
  simp only [lF,h1,I,hg,Bool.true_eq_false,bK]
 have e2:=(uu (π:={ π with ak:=π.ak.set i { f with b:=cM b aF,changed:=true },aQ:=cK n (dW π n aF,true) π.aQ }) (n:=n) (f:={ f with b:=cM b aF,changed:=true }) J (iL hi) U).2
 simp only [js,e1,e2,bQ,Ab]
 rfl
theorem N0 {π:Pl}{n:Int}{i:Nat}{f:Fm}{b:List Nat}{aF:Nat}(J:lookL n π.aH=some (i:Int))(I:π.ak[i]?=some f)(U:f.pins=1)(hg:bU b=false): js π n b aF=(4,{ π with ak:=π.ak.set i { f with pins:=0 } }):=by
 have h1:=(uu J I U).1
 have e1:lF π n b aF=(4,π):=by simp only [lF,h1,I,hg,bQ]
 have e2:=(uu J I U).2
 simp only [js,e1,e2]
 rfl
theorem Tq {π:Pl}{n:Int}{b:List Nat}{aF:Nat}(h:π.Ok): (lF π n b aF).2.Ok:=by
 unfold lF
 split
 ·exact h
 ·split
  ·exact h
  ·rename_i f J
   have hm:=bq J
   split
   ·exact h
   ·rename_i I
    have I:bU b=true:=by simpa using I
    exact h.set h.aH (by simp only [yZ I]; omega) (h.pins f hm)
theorem fS.put {ε ε':aM}{n:Int}{b0 b:List Nat}{aF:Nat}(hr:fS ε n 0 b0 ε')(h:gZ ε): gZ ((js ε'.1 n b aF).2,ε'.2)∧Am.cu ((js ε'.1 n b aF).2,ε'.2)≤Am.cu ε+1∧(bU b=true→(js ε'.1 n b aF).1=0):=by
 have I:=hr.ok h.ok h.pins
 have J:=(hr.full h.ok.dk h.full).1
 obtain ⟨i,f,h1,h2,h3,h4,h5⟩:=hr.at h.pins
 have hm:=bq h2
 have U:=hr.cu
 cases hg:bU b with
 | true =>
  rw [xb h1 h2 h3 hg]
  refine ⟨⟨⟨I.pl.set I.pl.aH (by simp only [yZ hg]; omega) (by simp),I.lg,I.dk⟩,h5 _ rfl,J.set h2 rfl fun _=>yZ hg⟩,?_,fun _=>rfl⟩
  have h6:=mX (g:={ f with b:=cM b aF,changed:=true,pins:=0 }) h2
  simp only [Bool.toNat_true] at h6
  simp only [Am.cu,uy] at U ⊢
  omega
 | false =>
  rw [N0 h1 h2 h3 hg]
  refine ⟨⟨⟨I.pl.set I.pl.aH (I.pl.len f hm) (by simp),I.lg,I.dk⟩,h5 _ rfl,J.set h2 rfl fun hl=>hl⟩,?_,fun h=>by cases h⟩
  have h6:=mX (g:={ f with pins:=0 }) h2
  simp only [Am.cu] at U h6 ⊢
  omega
inductive qo (now:List (Int×List Nat))(aF:Nat): List Int→aM→Int→aM→Prop where
 | nil (ε:aM):qo now aF [] ε 0 ε
 | iU (n:Int) (l:List Int) (ε:aM) (e:Int) (b:List Nat) (ε':aM) (hr:fS ε n e b ε') (he:e≠0):qo now aF (n::l) ε e ε'
 | bad (n:Int) (l:List Int) (ε:aM) (b0 b:List Nat) (ε':aM) (hr:fS ε n 0 b0 ε') (hb:lookL n now=some b) (he:(js ε'.1 n b aF).1≠0):qo now aF (n::l) ε (js ε'.1 n b aF).1 ((js ε'.1 n b aF).2,ε'.2)
 | put (n:Int) (l:List Int) (ε:aM) (b0 b:List Nat) (ε':aM) (e:Int) (ox:aM) (hr:fS ε n 0 b0 ε') (hb:lookL n now=some b) (he:(js ε'.1 n b aF).1=0) (ht:qo now aF l ((js ε'.1 n b aF).2,ε'.2) e ox):qo now aF (n::l) ε e ox
theorem qo.kJ {now:List (Int×List Nat)}{aF:Nat}{l:List Int}{ε ε':aM}{e:Int}(I:qo now aF l ε e ε')(h:gZ ε): gZ ε':=by
 induction I with
 | nil ε=>exact h
 | iU n l ε e b ε' I he=>exact ⟨I.ok h.ok h.pins,I.J_ he h.pins,(I.full h.ok.dk h.full).1⟩
 | bad n l ε U b ε' I hb he=>exact (I.put h).1
 | put n l ε U b ε' e J I hb he ht ih=>exact ih (I.put h).1
theorem qo.cu {now:List (Int×List Nat)}{aF:Nat}{l:List Int}{ε ε':aM}{e:Int}(I:qo now aF l ε e ε')(h:gZ ε): Am.cu ε'≤Am.cu ε+l.length:=by
 induction I with
 | nil ε=>exact aL _
 | iU n l ε e b ε' I he=>have:=I.cu; omega
 | bad n l ε U b ε' I hb he=>have:=(I.put (b:=b) (aF:=aF) h).2.1; simp only [bj]; omega
 | put n l ε U b ε' e J I hb he ht ih=>have h1:=ih (I.put h).1; have:=(I.put (b:=b) (aF:=aF) h).2.1; simp only [bj]; omega
theorem Xp {h:H}{id c:Nat}{es:bW}{n:Int}{u:V}{t kt et:TypeId}{k:IntKind}{z:V}(J:T.get h.tr id=some (.map (es.map ei) c))(he:lookE n es=some u)(hu:Tryz.prog.underlying t=some (.map kt et))(U:Tryz.prog.underlying kt=some (.int k))(hz:zeroT Tryz.prog et=some z):
  eY Tryz.prog h t (.map id) (.int .i64 n) false=some u:=by
 have hi:=pM (n:=n) es 0
 simp only [eY,lookupV,hu,U,hz,J,keyBeq,dB,ah,qY]
 cases I:idxE n es 0 with
 | none=>rw [I] at hi; rw [he] at hi; cases hi
 | some q=>rw [I] at hi; rw [he] at hi; obtain ⟨j,w⟩:=q; have:=bt hi; simp only at this; subst this; rfl
section
variable {told:dF} {h:H} {S:List ax} {X Y:ax} {r k q p bV a g aD:Nat} {op v x u wh di:V} {l b cP data:List Nat} {now:List (Int×List Nat)} {b_:Bool} {ε:aM}
noncomputable def dnL : Code:=cJ [1,1,1,1,1,1,1,1,0,1,0,0] ((Tryz.f17.body).getD .skip)
theorem N4 (hT:W told){ks:List Int}{kv dv:V}{aF vY c:Nat}{es:bW}(NM:ks.length≤65536)(uR:∀n∈ks,(lookL n now).isSome=true)(nu:∀e∈now,e.2.length=512): ∀(j i:Nat) (ε:aM) (h:H) (E:List (Nat×V)) (Q:Ex→List (Nat×V)→H→Prop),i+j=ks.length →
  gZ ε→cu ε+j≤268435456 →
  Sat h (pt g (.cells 3 [.ptr a 0,.map vY,.bool b_] false)::fo vY es c::en (fun v b=>.ct v b) es now::pt a (.cells 6 (qn a p q r op dv aD) false)::bZ r p q ε.1::bf q p ε.2.1::aC p ε.2.2::.arr 1 kv (eG ks)::S) →
  Has E [(0,.ptr g 0),(6,.ptr a 0),(8,.int .u64 (aF:Int)),(73,kv),(74,.int .i64 ks.length),(75,.int .i64 i)] →
  (∀e ε' E' h',qo now aF (ks.drop i) ε e ε'→e≠0→look E' 4=some (.int .u64 0)→look E' 5=some (.int .i64 e)→Sat h' (pt g (.cells 3 [.ptr a 0,.map vY,.bool b_] false)::fo vY es c::en (fun v b=>.ct v b) es now::pt a (.cells 6 (qn a p q r op dv aD) false)::bZ r p q ε'.1::bf q p ε'.2.1::aC p ε'.2.2::S)→Q .ret E' h') →
  (∀ε' E' h',qo now aF (ks.drop i) ε 0 ε'→Has E' [(8,.int .u64 (aF:Int))]→Sat h' (pt g (.cells 3 [.ptr a 0,.map vY,.bool b_] false)::fo vY es c::en (fun v b=>.ct v b) es now::pt a (.cells 6 (qn a p q r op dv aD) false)::bZ r p q ε'.1::bf q p ε'.2.1::aC p ε'.2.2::S)→Q (.exit 1) E' h') →
  WP ⟨Tryz.prog,told⟩ 118 (.loop dnL) E h Q:=by
 intro j
 induction j with
 | zero =>
  intro i ε h E Q hj I hw s hE hr hx
  refine WP.loop (WP.has hE (zg rfl (zh rfl (ag rfl rfl bx) (by simp <;> omega) ?_)))
  refine zk 3 rfl (WP.exit ?_)
  rw [ig (by omega)] at hx
  exact hx ε _ _ (.nil ε) ⟨rfl,aa⟩ (s.del 7)
 | succ j ih =>
  intro i ε h E Q hj I hw s hE hr hx
  have hn:ks[i]?=some (ks[i]'(by omega)):=bg _
  have wD:ks[i]'(by omega)∈ks:=oW _
  have lQ:ks.drop i=ks[i]'(by omega)::ks.drop (i+1):=kM (by omega)
  generalize (ks[i]'(by omega))=n at hn wD lQ
  have hc:(eG ks)[i]?=some (.int .i64 n):=by simp [eG,hn]
  obtain ⟨b,hb⟩:=Option.isSome_iff_exists.1 (uR n wD)
  have FP:=nu _ (fe hb)
  simp only at FP
  rw [lQ] at hr hx
  obtain ⟨id,off,e1,e2⟩:=kR (P:=Tryz.prog) s (k:=7) rfl hc eu jK
  refine WP.loop (WP.has hE (zg rfl (zt rfl (ag rfl rfl bx) (by simp <;> omega) ?_)))
  refine zk 5 rfl (WP.block (zg rfl (zo rfl (dG (r:=.ptr id off) rfl rfl e1) (zl rfl (e2 _ c7) (zk 7 rfl (zf rfl (oo _ _) (zl rfl (s.ld (k:=3) rfl u_ rfl) (zm rfl (zc rfl (NI (n:=n) hT (s.ae [4,4,4]) I.ok.pl I.pins I.ok.lg I.ok.dk (by have:=mH (ε:=ε); omega)) ?_)))))))))
  rintro v h ⟨e,b0,ε',U,(⟨he,rfl,s⟩ | ⟨rfl,u0,rfl,s⟩)⟩
  ·dsimp only [bringA,getA,aU] at s
   refine zk 9 rfl (zt rfl (ag rfl rfl aX) (by simp; exact he) ?_)
   exact zk 8 rfl (WP.ret (hr e ε' _ _ (.iU n _ ε e b0 ε' U he) he rfl rfl ((s.ae [3,3,3,3,0,0,0]).del 7)))
  ·dsimp only [bringA,getA,aU] at s
   have s:=s.drop
   have VK:=U.put (b:=b) (aF:=aF) I
   have mQ:=U.ok I.ok I.pins
   refine zk 9 rfl (zh rfl (ag rfl rfl aX) (rfl) (zk 4 rfl ?_))
   have s1:Sat h (en (fun v b=>.ct v b) es now::_):=s.ae [5]
   obtain ⟨_,_,_,_,q3⟩:=s1.at (k:=0) rfl
   rcases sF (n:=n) q3 with ⟨_,q4⟩ | ⟨u,b',g1,g2,_⟩
   ·rw [hb] at q4; cases q4
   rw [hb] at g2
   have:=bt g2
   subst this
   have s2:=(s1.dup (aE.GN (fun _ _=>aE.ct _ _) _ _)).ga (B:=.ct u b) fun a' b' h'=>by
    rcases sF (n:=n) h' with ⟨_,q4⟩ | ⟨u',X3,YD,YE,Vk⟩
    ·rw [hb] at q4; cases q4
    ·rw [g1] at YD; rw [hb] at YE
     have h5:=bt YD
     have h6:=bt YE
     subst h5; subst h6
     exact Vk
   dsimp only [bringA,getA,aU] at s2
   obtain ⟨uid,aa8,aa9,rfl⟩:=kx (s2.aG (k:=0) rfl (cL _ _)) (by omega)
   have s:=s2.ae [2,0]
   dsimp only [bringA,getA,aU] at s
   have s0:=s
   refine WP.drawn [ai,ai,ai,ai,ai,ai,ai,ai,ai,ai,ai,ai,ai,ai] rfl (by kernel_rfl) (by kernel_rfl) ?_
   refine zM rfl (zN rfl (zF rfl (oo _ _) (zL rfl (s.ld (k:=7) rfl u_ rfl) (zM rfl (zM rfl (zN rfl (zF rfl (t_ _ _) (zL rfl (s.ld (k:=5) rfl l_ rfl) (zM rfl (zO rfl (gG rfl rfl (Xp (s.row (k:=6) rfl) g1 kZ bE yw)) (zM rfl (aA.any rfl rfl rfl rfl (OpR.call rfl rfl rfl rfl (Tg (n:=n) (aF:=aF) (b:=b) hT s (cL _ _) mQ.pl (by omega))) ?_))))))))))))
   rintro v h ⟨rfl,s⟩
   refine zA rfl ?_
   refine aA.nil ⟨⟨aa,aa,aa,aa,aa,aa,aa,aa,aa,aa,aa,aa,aa,aa,aa⟩,?_⟩
   refine zK 5 rfl (zf rfl (oo _ _) (zl rfl (s.ld (k:=7) rfl u_ rfl) (zm rfl (zc rfl (G6 (n:=n) hT s (Tq mQ.pl)) ?_))))
   rintro v h ⟨rfl,s⟩
   refine zk 5 rfl ?_
   by_cases hg:(lF ε'.1 n b aF).1=0
   ·have Kc:(js ε'.1 n b aF).1=(unpinF (lF ε'.1 n b aF).2 n).1:=by simp only [js,hg,bQ]
    have vZ:(js ε'.1 n b aF).2=(unpinF (lF ε'.1 n b aF).2 n).2:=rfl
    rw [←Kc,←vZ] at *
    refine zt rfl (ag rfl rfl bR) (by simp; exact hg) ?_
    refine zk 9 rfl ?_
    by_cases he:(js ε'.1 n b aF).1=0
    ·skip
     refine zh rfl (ag rfl rfl aX) (by simp; exact he) ?_
     refine zv (zj rfl (WP.skip (zr rfl (zb rfl (by exact bO (aT (by omega) (by omega))) ?_))))
     refine zm rfl (zv ?_)
     have s9:=(s.ae [5,5,2,4,0,1,1,1]).del 8
     refine ih (i+1) ((js ε'.1 n b aF).2,ε'.2) _ _ Q (by omega) VK.1 (by have h9:cu ((js ε'.1 n b aF).2,ε'.2)≤cu ε+1:=VK.2.1; omega) s9 ⟨rfl,rfl,rfl,rfl,rfl,rfl,aa⟩ (fun e J E' h' ht xJ l4 l5 s' => ?_) (fun J E' h' ht gq s' => ?_)
     ·exact hr e J E' h' (.put n _ ε b0 b ε' e J U hb he ht) xJ l4 l5 s'
     ·exact hx J E' h' (.put n _ ε b0 b ε' 0 J U hb he ht) gq s'
    ·skip
     refine zt rfl (ag rfl rfl aX) (by simp; exact he) ?_
     exact zk 8 rfl (WP.ret (hr _ _ _ _ (.bad n _ ε b0 b ε' U hb he) he rfl rfl (((s.ae [5,5,2,4,0,1,1,1]).del 8).del 7)))
   ·have Kc:(js ε'.1 n b aF).1=(lF ε'.1 n b aF).1:=by simp only [js,hg,bK]
    have vZ:(js ε'.1 n b aF).2=(unpinF (lF ε'.1 n b aF).2 n).2:=rfl
    rw [←Kc] at hg
    refine zh rfl (ag rfl rfl bR) (by simp; rw [←Kc]; exact hg) ?_
    refine zk 6 rfl (zt rfl (ag rfl rfl aX) (by simp; rw [←Kc]; exact hg) ?_)
    refine zk 8 rfl (WP.ret (hr _ _ _ _ (.bad n _ ε b0 b ε' U hb hg) hg rfl (by rw [Kc]; rfl) ?_))
    exact ((s.ae [5,5,2,4,0,1,1,1]).del 8).del 7
end
theorem uw.fit {pg:Int}{cP now:List Nat}{i:Nat}{l:List cm}(J:uw pg cP now i l)(hn:now.length=512)(h0:0≤pg)(h1:pg<65536): ∀c∈l,c.Ok∧c.b.length≤512:=by
 induction J with
 | done i h=>intro c I; cases I
 | skip i l h he J U=>exact U
 | take i e l h2 h3 _ _ J U =>
  intro c I
  rcases List.mem_cons.1 I with rfl | I
  ·have hl:((now.take e).drop i).length=e-i:=by simp; omega
   refine ⟨⟨h0,h1,by simp,by simp only; omega,by simp only [hl]; omega,by simp⟩,by simp only [hl]; omega⟩
  ·exact U c I
theorem E4.fit {pg:Int}{cP now:List Nat}{l:List cm}(U:E4 pg cP now l)(hn:now.length=512)(I:0≤pg)(J:pg<65536): ∀c∈l,c.Ok∧c.b.length≤512:=by
 obtain ⟨m,h2,rfl⟩:=U
 split
 ·intro c hc
  rw [List.mem_singleton.1 hc]
  exact ⟨⟨I,J,by simp,by simp,by simp,by simp⟩,by simp⟩
 ·exact h2.fit hn I J
theorem jh.fit {now:List (Int×List Nat)}{l:List Int}{ε ε':aM}{e:Int}{cs:List cm}(hr:jh now l ε e cs ε')(J:∀x∈now,x.2.length=512)(hl:∀n∈l,0≤n∧n<65536): ∀c∈cs,c.Ok∧c.b.length≤512:=by
 induction hr with
 | nil ε=>intro c hc; cases hc
 | err n l ε e b ε' hr he=>intro c hc; cases hc
 | part n l ε cP b ε' c e cs ox hr U hd hc lK ht ih =>
  intro x I
  have hn:=hl n bp
  rcases List.mem_append.1 I with I | I
  ·exact hc.fit (J _ (fe U)) hn.1 hn.2 x I
  ·exact ih (fun m hm=>hl m (bl _ hm)) x I
 | whole n l ε cP b ε' e cs ox hr U hd ht ih =>
  intro x I
  have hn:=hl n bp
  have U:=J _ (fe U)
  rcases List.mem_cons.1 I with rfl | I
  ·exact ⟨⟨hn.1,hn.2,by simp,by simp,by simp only at U ⊢; omega,fun _=>⟨rfl,U⟩⟩,by simp only at U ⊢; omega⟩
  ·exact ih (fun m hm=>hl m (bl _ hm)) x I
theorem uS : ∀(f n:Nat),(digits f n).length≤f+1:=by
 intro f
 induction f with
 | zero=>intro n; simp [digits]
 | succ f I =>
  intro n
  unfold digits
  split
  ·simp
  ·have:=I (n/128)
   simp only [bj]
   omega
theorem VL {c:cm}(I:c.b.length≤512): (kG c).length≤543:=by
 have J:=uS 9 c.aK.toNat
 have U:=uS 9 c.pos.toNat
 have h3:=uS 9 c.b.length
 simp only [kG,bC,bj,bY]
 omega
theorem Tr : ∀ {l:List cm},(∀c∈l,c.b.length≤512)→(l.flatMap kG).length≤543*l.length:=by
 intro l
 induction l with
 | nil=>intro _; simp
 | cons c l I =>
  intro h
  have U:=VL (h c bp)
  have h2:=I fun x J=>h x (bl _ J)
  simp only [qF,bC,bj]
  omega
theorem Ts {l:List cm}{tx pv nx:Nat}{data:List Nat}(hl:l.length≤33554432)(h:∀c∈l,c.Ok∧c.b.length≤512)(J:tx<18446744073709551616)(U:pv<18446744073709551616)(EU:nx<18446744073709551616)(hd:data.length≤35184372088832): Cz tx pv nx data l:=by
 have h2:=Tr fun c I=>(h c I).2
 refine ⟨⟨by omega,fun c I=>by have:=(h c I).2; omega,fun c I => ?_⟩,J,U,EU,by omega⟩
 have:=(h c I).1
 simp only [cm.Ok] at this
 omega
theorem Hw {l:List cm}{kd:Int}(I:1≤kd∧kd≤9)(h:∀c∈l,c.Ok∧c.b.length≤512): dM kd l=true:=by
 simp only [dM,aY,eA,oY]
 exact ⟨I,fun c J=>(h c J).1⟩
inductive rV (ε:aM)(now:List (Int×List Nat))(kd:Int)(tx pv nx:Nat)(data:List Nat)(pQ:Nat): Nat→Int→Bool→aM→Prop where
 | arg (h:¬(1≤kd∧kd≤7)∨0<pQ):rV ε now kd tx pv nx data pQ 0 1 false ε
 | dead (h1:1≤kd) (h2:kd≤7) (h3:pQ=0) (h:ε.2.2.dead=true):rV ε now kd tx pv nx data pQ 0 9 false ε
 | mB (e:Int) (c:List cm) (ε':aM) (h1:1≤kd) (h2:kd≤7) (h3:pQ=0) (h:ε.2.2.dead=false) (hc:jh now (aJ now) ε e c ε') (he:e≠0):rV ε now kd tx pv nx data pQ 0 e false ε'
 | app (c:List cm) (ε':aM) (h1:1≤kd) (h2:kd≤7) (h3:pQ=0) (h:ε.2.2.dead=false) (hc:jh now (aJ now) ε 0 c ε') (he:(bn ε'.2 kd tx pv nx data c).1.2≠0):rV ε now kd tx pv nx data pQ 0 (bn ε'.2 kd tx pv nx data c).1.2 false (ε'.1,(bn ε'.2 kd tx pv nx data c).2)
 | put (c:List cm) (ε':aM) (e:Int) (ox:aM) (h1:1≤kd) (h2:kd≤7) (h3:pQ=0) (h:ε.2.2.dead=false) (hc:jh now (aJ now) ε 0 c ε') (ha:(bn ε'.2 kd tx pv nx data c).1.2=0) (hp:qo now (bn ε'.2 kd tx pv nx data c).1.1 (aJ now) (ε'.1,(bn ε'.2 kd tx pv nx data c).2) e ox) :
   rV ε now kd tx pv nx data pQ (if e=0 then (bn ε'.2 kd tx pv nx data c).1.1 else 0) e true ox
structure uT (ε ε':aM): Prop where
 base:ε'.2.1.base=ε.2.1.base
 b:ε'.2.1.b=ε.2.1.b
 bw:ε'.2.1.bw=ε.2.1.bw
 check:ε'.2.1.check=ε.2.1.check
 log:ε'.2.2.log=ε.2.2.log
 room:ε'.2.2.room=ε.2.2.room
 aq:ε'.2.2.aq=ε.2.2.aq
theorem uT.refl (ε:aM): uT ε ε:=⟨rfl,rfl,rfl,rfl,rfl,rfl,rfl⟩
theorem uT.trans {a b c:aM}(x:uT a b)(y:uT b c): uT a c :=
 ⟨y.base.trans x.base,y.b.trans x.b,y.bw.trans x.bw,y.check.trans x.check,y.log.trans x.log,y.room.trans x.room,y.aq.trans x.aq⟩
theorem nV {δ:Dk}: δ.cG.2.log=δ.log∧δ.cG.2.room=δ.room∧δ.cG.2.aq=δ.aq:=by
 unfold Dk.cG
 split
 ·exact ⟨rfl,rfl,rfl⟩
 ·split <;> exact ⟨rfl,rfl,rfl⟩
theorem xg {δ:Dk}{n:Int}{b:List Nat}: (δ.bJ n b).2.log=δ.log∧(δ.bJ n b).2.room=δ.room∧(δ.bJ n b).2.aq=δ.aq:=by
 unfold Dk.bJ
 split
 ·exact ⟨rfl,rfl,rfl⟩
 ·split
  ·exact ⟨rfl,rfl,rfl⟩
  ·split <;> exact ⟨rfl,rfl,rfl⟩
theorem y5 {π:Pl}{x:LD}{n:Nat}: uT (π,x) (π,(bB x n).2):=by
 unfold bB
 split
 ·exact uT.refl _
 ·split
  ·exact ⟨rfl,rfl,rfl,rfl,nV.1,nV.2.1,nV.2.2⟩
  ·exact ⟨rfl,rfl,rfl,rfl,nV.1,nV.2.1,nV.2.2⟩
theorem uT.to {π:Pl}{ε ε':aM}(h:uT ε ε'): uT ε (π,ε'.2):=⟨h.base,h.b,h.bw,h.check,h.log,h.room,h.aq⟩
structure kL (R:LD→Prop): Prop where
 force:∀(x:LD) (n:Nat),R x→R (bB x n).2
 write:∀(x:LD) (n:Int) (b:List Nat),R x→R (x.1,(x.2.bJ n b).2)
section
variable {R:LD→Prop} {ε ε':aM} {n e:Int} {b:List Nat} {now gL:List (Int×List Nat)} {b_:Bool} {l:List Int} {cs:List cm} {aF:Nat}
theorem kL.out (h:kL R){ε:aM}{i:Nat}(I:R ε.2): R (outF ε i).2.2:=by
 unfold outF
 split
 ·exact I
 ·split
  ·exact I
  ·split
   ·exact I
   ·split
    ·exact h.force _ _ I
    ·split
     ·exact h.write _ _ _ (h.force _ _ I)
     ·exact h.write _ _ _ (h.force _ _ I)
theorem kL.iU (h:kL R)(U:fS ε n e b ε')(J:R ε.2): R ε'.2:=by
 cases U with
 | arg hn=>exact J
 | A6 i f h1 h2 hl hf=>exact J
 | out I i f h1 h2 hl hn hf hh he=>exact h.out (ε:=(I,ε.2)) J
 | read I i f h1 h2 hl hn hf hh he U=>exact h.out (ε:=(I,ε.2)) J
 | bad I i f h1 h2 hl hn hf hh he U hc=>exact h.out (ε:=(I,ε.2)) J
 | load I i f h1 h2 hl hn hf hh he U hc=>exact h.out (ε:=(I,ε.2)) J
theorem kL.rd (h:kL R)(I:mD ε n e b ε')(J:R ε.2): R ε'.2:=by
 cases I with
 | dead U=>exact J
 | iU e b ε' U I he=>exact h.iU I J
 | sJ b ε' U I he=>exact h.iU (ε':=ε') I J
 | read b ε' U I he=>exact h.iU (ε':=ε') I J
theorem kL.y6 (h:kL R)(J:ow ε now b_ n e b ε')(I:R ε.2): R ε'.2:=by
 cases J with
 | arg hn=>exact I
 | b_ _ _ _=>exact I
 | own b U h2 _ hl=>exact I
 | read e b ε' U h2 _ hl J=>exact h.rd J I
theorem kL.N5 (h:kL R)(I:uv ε now b_ n b e gL ε')(J:R ε.2): R ε'.2:=by
 cases I with
 | may e c ε' I he=>exact h.y6 I J
 | bad c ε' I U=>exact h.y6 I J
 | done c ε' I U=>exact h.y6 I J
theorem kL.ch (h:kL R)(I:jh now l ε e cs ε'): R ε.2→R ε'.2:=by
 induction I with
 | nil ε=>exact fun J=>J
 | err n l ε e b ε' I he=>exact h.rd I
 | part n l ε cP b ε' c e cs U I hb hd hc lK ht ih=>exact fun J=>ih (h.rd I J)
 | whole n l ε cP b ε' e cs U I hb hd ht ih=>exact fun J=>ih (h.rd I J)
theorem kL.pt (h:kL R)(I:qo now aF l ε e ε'): R ε.2→R ε'.2:=by
 induction I with
 | nil ε=>exact fun J=>J
 | iU n l ε e b ε' I he=>exact h.iU I
 | bad n l ε b0 b ε' I hb he=>exact h.iU (ε':=ε') I
 | put n l ε b0 b ε' e U I hb he ht ih=>exact fun J=>ih (h.iU (ε':=ε') I J)
theorem N6 (ε:aM): kL fun y=>uT ε (ε.1,y) :=
 ⟨fun _ _ h=>h.trans y5,fun _ _ _ h=>h.trans ⟨rfl,rfl,rfl,rfl,xg.1,xg.2.1,xg.2.2⟩⟩
theorem jh.same (I:jh now l ε e cs ε'): uT ε ε':=((N6 ε).ch I (uT.refl ε)).to
end
theorem Qp {m:Nat}: ∀ {l:List Nat},l.Pairwise (· < ·)→(∀s∈l,s<m)→l.length≤m:=by
 intro l I J
 have key:∀(l:List Nat) (k:Nat),l.Pairwise (· < ·)→(∀s∈l,k≤s∧s<m)→k+l.length≤m∨l=[]:=by
  intro l
  induction l with
  | nil=>intro k _ _; exact .inr rfl
  | cons x l U =>
   intro k I J
   simp only [oU] at I
   have hx:=J x bp
   rcases U (x+1) I.2 (fun s hs=>⟨I.1 s hs,(J s (bl _ hs)).2⟩) with h | rfl
   ·left; simp only [bj]; omega
   ·left; simp; omega
 rcases key l 0 I (fun s hs=>⟨fh _,J s hs⟩) with h | rfl
 ·omega
 ·simp
theorem jf (x:LD)(kd:Int)(tx pv nx:Nat)(data:List Nat)(c:List cm):
  (∃e:Int,e≠0∧((e=1∧dM kd c=false)∨(e=2∧1048576<(dm kd tx pv nx data c).length)∨(e=9∧x.2.dead=true)∨(e=7∧x.2.room<x.2.log.length+(dr x.1 kd tx pv nx data c).length))∧bn x kd tx pv nx data c=((0,e),x)) ∨
  (x.2.dead=false∧x.2.aI=0∧bn x kd tx pv nx data c=((0,9),(x.1,{ x.2.die with tail:=dr x.1 kd tx pv nx data c }))) ∨
  (dM kd c=true∧(dm kd tx pv nx data c).length≤1048576∧x.2.dead=false∧x.2.log.length+(dr x.1 kd tx pv nx data c).length≤x.2.room∧x.2.aI≠0 ∧
   bn x kd tx pv nx data c=((x.1.base+x.1.b.length,0),(x.1.app (dr x.1 kd tx pv nx data c),{ x.2.c_ with log:=x.2.log++dr x.1 kd tx pv nx data c }))):=by
 by_cases I:dM kd c=false
 ·exact .inl ⟨1,by decide,.inl ⟨rfl,I⟩,by rw [bn,aj I]⟩
 ·by_cases U:1048576<(dm kd tx pv nx data c).length
  ·exact .inl ⟨2,by decide,.inr (.inl ⟨rfl,U⟩),by rw [bn,af I,aj U]⟩
  ·by_cases J:x.2.dead=true
   ·have e:x.2.kz (dr x.1 kd tx pv nx data c)=(9,x.2):=by rw [Dk.kz,aj J]
    exact .inl ⟨9,by decide,.inr (.inr (.inl ⟨rfl,J⟩)),by rw [bn,af I,af U,e,aj (by simp)]⟩
   ·by_cases hr:x.2.room<x.2.log.length+(dr x.1 kd tx pv nx data c).length
    ·have e:x.2.kz (dr x.1 kd tx pv nx data c)=(7,x.2):=by rw [Dk.kz,af J,aj hr]
     exact .inl ⟨7,by decide,.inr (.inr (.inr ⟨rfl,hr⟩)),by rw [bn,af I,af U,e,aj (by simp)]⟩
    ·by_cases hf:x.2.aI=0
     ·have e:x.2.kz (dr x.1 kd tx pv nx data c)=(9,{ x.2.die with tail:=dr x.1 kd tx pv nx data c }):=by rw [Dk.kz,af J,af hr,aj hf]
      exact .inr (.inl ⟨by simpa using J,hf,by rw [bn,af I,af U,e,aj (by simp)]⟩)
     ·have e:x.2.kz (dr x.1 kd tx pv nx data c)=(0,{ x.2.c_ with log:=x.2.log++dr x.1 kd tx pv nx data c }):=by rw [Dk.kz,af J,af hr,af hf]
      exact .inr (.inr ⟨by simpa using I,by omega,by simpa using J,by omega,hf,by rw [bn,af I,af U,e,af (by simp)]⟩)
theorem vf {x:LD}{kd:Int}{tx pv nx:Nat}{data:List Nat}{c:List cm}(J:x.1.Ok)(I:x.2.Ok)(hs:x.1.b=x.2.log)(hz:x.1.base+x.1.b.length+1048584≤1099511627776):
  (bn x kd tx pv nx data c).2.1.Ok∧(bn x kd tx pv nx data c).2.2.Ok∧(bn x kd tx pv nx data c).2.1.b=(bn x kd tx pv nx data c).2.2.log∧(bn x kd tx pv nx data c).2.1.base=x.1.base∧(bn x kd tx pv nx data c).2.1.b.length≤x.1.b.length+1048584 ∧
  (bn x kd tx pv nx data c).2.2.waiting=x.2.waiting∧(bn x kd tx pv nx data c).1.1<1099511627776:=by
 have hlen:(dr x.1 kd tx pv nx data c).length=8+(dm kd tx pv nx data c).length:=oK _ _
 rcases jf x kd tx pv nx data c with ⟨e,_,_,h⟩ | ⟨hd,hf,h⟩ | ⟨hg,hb,hd,U,hf,h⟩
 ·rw [h]; exact ⟨J,I,hs,rfl,sR _ _,rfl,by simp⟩
 ·rw [h]; exact ⟨J,⟨I.aI,I.len,I.room,I.now,I.aq,I.aR,I.many⟩,hs,rfl,sR _ _,rfl,by simp⟩
 ·rw [h]
  generalize dr x.1 kd tx pv nx data c=rc at hlen U
  have aaG:=I.room
  have lJ:x.1.b.length=x.2.log.length:=by rw [hs]
  have hl:(x.1.b++rc).length=x.1.b.length+rc.length:=bC
  have lH:(x.2.log++rc).length=x.2.log.length+rc.length:=bC
  refine ⟨⟨?_,?_,?_,?_,?_,?_,J.check⟩,⟨I.c_.aI,?_,I.room,I.now,I.aq,?_,I.many⟩,?_,rfl,?_,rfl,?_⟩
  ·show x.1.base+(x.1.b++rc).length≤_; omega
  ·have h1:=Qp J.wX J.low
   show (x.1.bw++[x.1.b.length]).length≤_
   simp only [bC,bj,bY]; omega
  ·intro s hm
   show s<(x.1.b++rc).length
   rcases List.mem_append.1 (show s∈x.1.bw++[x.1.b.length] from hm) with hm | hm
   ·have:=J.low s hm; omega
   ·rw [List.mem_singleton.1 hm]; omega
  ·show (x.1.bw++[x.1.b.length]).Pairwise (·< ·)
   rw [List.pairwise_append]
   refine ⟨J.wX,List.pairwise_singleton _ _,fun a ha b hb => ?_⟩
   rw [List.mem_singleton.1 hb]
   exact J.low a ha
  ·have:=J.forced
   show x.1.forced≤(x.1.b++rc).length; omega
  ·show (x.1.b++rc).length≤_; omega
  ·show (x.2.log++rc).length≤_; omega
  ·have:=I.aR
   show x.2.aR≤(x.2.log++rc).length; omega
  ·show x.1.b++rc=x.2.log++rc; rw [hs]
  ·show (x.1.b++rc).length≤_; omega
  ·show x.1.base+x.1.b.length<_; omega
theorem wf_i64 {n:Int}(I:0≤n)(J:n<4294967296): (Lit.int .i64 n).wf=true:=by
 simp only [Lit.wf,aY,eA]
 have U:IntKind.min .i64 = -9223372036854775808:=rfl
 have e2:IntKind.max .i64=9223372036854775807:=rfl
 omega
theorem AA {kd:Int}{tx pv nx:Nat}{dt ch:V}(I:dt.beq dt=true)(J:ch.beq ch=true): (V.agg (iy kd tx pv nx dt ch)).beq (V.agg (iy kd tx pv nx dt ch))=true:=by
 simp only [iy,V.beq,V.beqL,I,J,dB,nP,Ac,iq,ah]
section
variable {told:dF} {h:H} {S:List ax} {X Y:ax} {r k q p bV a g aD:Nat} {op v x u wh di:V} {l b cP data dX:List Nat} {now:List (Int×List Nat)} {b_:Bool} {ε:aM}
theorem Tt (hT:W told){kd:Int}{tx pv nx pQ:Nat}{dt ch:V}{YF:List V}(s:Sat h (gK g a now false::cx a p q r (.ptr g 0) dX aD::bZ r p q ε.1::bf q p ε.2.1::aC p ε.2.2::X::.arr 4 ch YF::S))(hX:cR X (cV dt data))(GL:YF.length=pQ*4)(rf:gZ ε)(hw:cu ε+65536≤268435456)
 (nu:∀e∈now,e.2.length=512)(hm:now.length≤65536)(hk:∀n∈now.map (·.1),0≤n∧n<65536)(NC:tx<18446744073709551616)(Yq:pv<18446744073709551616)(EU:nx<18446744073709551616)(hd:data.length≤35184372088832)(y7:ε.2.1.b=ε.2.2.log)(hz:ε.2.1.base+ε.2.1.b.length+1048584≤1099511627776):
  Call ⟨Tryz.prog,told⟩ 17 [.ptr g 0,.agg (iy kd tx pv nx dt ch)] h fun v h'=>∃aF e cl ε',rV ε now kd tx pv nx data pQ aF e cl ε'∧v=.bD [.int .u64 (aF:Int),.int .i64 e] ∧
   Sat h' (gK g a now cl::cx a p q r (cond cl .cD (.ptr g 0)) dX aD::bZ r p q ε'.1::bf q p ε'.2.1::aC p ε'.2.2::X::S):=by
 have mL:∀n∈now.map (·.1),(Lit.int .i64 n).wf=true:=fun n hn=>by
  have:=hk n hn
  exact wf_i64 (by omega) (by omega)
 have me:=s.kF (j:=6) rfl
 have jM:=s.aG (k:=5) rfl hX
 have gn:=mP (kd:=kd) (tx:=tx) (pv:=pv) (nx:=nx) jM.cells.2 me.2.1
 have hlen:=s.iH (n:=pQ) (j:=6) rfl GL (by decide) iJ
 have s0:=s
 obtain ⟨nv,s⟩:=fy.1 s
 refine Call.of_wp (hT.free _ rfl) Tryz.func17 rfl rfl (zg rfl (aB.cO s rfl rfl rfl (gw rfl gn) ?_))
 intro p1 h s
 dsimp only [V.cells] at s
 have s:Sat h (pt p1 (.cells 6 (iy kd tx pv nx dt ch) false)::_):=s
 have hlen:=s.iH (n:=pQ) (j:=8) rfl GL (by decide) iJ
 refine zk 7 rfl (zf rfl (tZ _ _) (zl rfl (s.ld (k:=1) rfl Bn rfl) (zk 3 rfl (WP.block (zK 4 rfl (zf rfl (GH _ _) (zh rfl (aV rfl (s.ld (k:=1) rfl jV rfl)) (rfl) (zk 5 rfl (zf rfl (tX _ _) (zl rfl (s.ld (k:=0) rfl c7 rfl) ?_))))))))))
 have fin:∀e:Int,Sat h (gK g a now false::cx a p q r (.ptr g 0) dX aD::bZ r p q ε.1::bf q p ε.2.1::aC p ε.2.2::X::S):=fun e=>((fy.2 ⟨nv,s.ae [1,1]⟩).del 7).del 1
 refine zd rfl (ag rfl rfl bx) ?_ ?_
 ·intro hq
  have hq:kd<1:=by simpa using hq
  exact zk 19 rfl (WP.ret ⟨aa,_,rfl,0,1,false,ε,.arg (.inl (by omega)),rfl,fin 0⟩)
 ·intro hq
  have hq:1≤kd:=by simp at hq; omega
  refine zm rfl (zf rfl (tX _ _) (zl rfl (s.ld (k:=0) rfl c7 rfl) ?_))
  refine zd rfl (ag rfl rfl dR) ?_ ?_
  ·intro J
   have J:7<kd:=by simpa using J
   exact zk 15 rfl (WP.ret ⟨aa,_,rfl,0,1,false,ε,.arg (.inl (by omega)),rfl,fin 0⟩)
  ·intro J
   have J:kd≤7:=by simp at J; omega
   refine zk 2 rfl (zf rfl (mO _ _) (zl rfl (s.ld (k:=0) rfl tW rfl) (zo rfl (a_ rfl rfl rfl hlen) ?_)))
   refine zd rfl (ag rfl rfl dR) ?_ ?_
   ·intro I
    have I:0<pQ:=by simp at I; omega
    exact zk 9 rfl (WP.ret ⟨aa,_,rfl,0,1,false,ε,.arg (.inr I),rfl,fin 0⟩)
   ·intro I
    have I:pQ=0:=by simp at I; omega
    obtain ⟨dv,s⟩:=bM.1 (s.ae [3])
    dsimp only [bringA,getA,aU] at s
    refine zk 8 rfl (zf rfl (rO _ _) (zl rfl (s.ld (k:=0) rfl jQ rfl) (zc rfl (wT hT (s.ae [7])) ?_)))
    rintro v h ⟨rfl,rfl⟩
    refine zk 2 rfl ?_
    cases En:ε.2.2.dead with
    | true =>
     refine zK 6 rfl (WP.ret ⟨aa,_,rfl,?_⟩)
     have s9:=fy.2 ⟨nv,(bM.2 ⟨dv,s⟩).ae [2,2]⟩
     dsimp only [bringA,getA,aU] at s9
     exact ⟨0,9,false,ε,.dead hq J I En,rfl,(s9.del 7).del 2⟩
    | false =>
     refine zj rfl (WP.skip (zg rfl (za rfl (zv (zw (zg rfl (zm rfl ?_)))))))
     have s9:=fy.2 ⟨nv,(bM.2 ⟨dv,s⟩).ae [2,2]⟩
     dsimp only [bringA,getA,aU] at s9
     have s:=s9.ae [0,0,1,1,1]
     dsimp only [bringA,getA,aU] at s
     refine zc rfl (LH hT s rf (by omega) nu hm mL) ?_
     rintro v h ⟨e,c,ε',hc,(⟨he,rfl,s⟩ | ⟨rfl,lK,av,cs,rfl,s⟩)⟩
     ·refine aB.op rfl rfl rfl (bk rfl) ?_
      refine zk 2 rfl (zf rfl (mO _ _) ?_)
      refine zS rfl (by exact s.dZ (k:=5) rfl Lb rfl (by decide) rfl rfl) (fun h s => ?_)
      dsimp only [iy,Nat.reduceAdd,List.set,setA] at s
      refine zk 5 rfl (zt rfl (ag rfl rfl aX) (by simp; exact he) ?_)
      exact zk 8 rfl (WP.ret ⟨aa,_,rfl,0,e,false,ε',.mB e c ε' hq J I En hc he,rfl,(s.del 7).del 5⟩)
     ·have CK:=s.kF (j:=0) rfl
      have Hx:=hc.kJ rf
      have hcp:=hc.cu
      have R6:=hc.same
      have VM:=vf (x:=ε'.2) (kd:=kd) (tx:=tx) (pv:=pv) (nx:=nx) (data:=data) (c:=c) Hx.ok.lg Hx.ok.dk (by rw [R6.b,R6.log]; exact y7) (by rw [R6.base,R6.b]; exact hz)
      have iE:=hc.fit nu fun n hn=>hk n ((er _).mem_iff.1 hn)
      refine zk 3 rfl (zf rfl (mO _ _) (zS rfl (s.dZ (k:=7) rfl Lb rfl (show 0+5<6 by decide) CK.1 CK.2.1) ?_))
      intro h s
      dsimp only [iy,Nat.reduceAdd,List.set,setA] at s
      refine zk 5 rfl (zh rfl (ag rfl rfl aX) (rfl) ?_)
      obtain ⟨dv,s⟩:=bM.1 (s.ae [3])
      dsimp only [bringA,getA,aU] at s
      have s:=s.ae [6,6,7,2,2,0,3]
      dsimp only [bringA,getA,aU] at s
      refine zv (zj rfl (WP.skip (zw ?_)))
      have s0:=s
      have ZV:=cY jM
      have Hy:=AA (kd:=kd) (tx:=tx) (pv:=pv) (nx:=nx) ZV CK.2.2
      refine WP.drawn [ai,ai,ai,ai,ai,ai,ai,ai,ai,ai,ai] rfl (by kernel_rfl) (by kernel_rfl) ?_
      refine zM rfl (zN rfl (zF rfl (kY _ _) (zL rfl (s.ld (k:=5) rfl nj rfl) (zL rfl (s.fE (k:=6) rfl ni gy) (aA.any rfl rfl rfl rfl (OpR.call rfl rfl rfl rfl (G4 (kd:=kd) (tx:=tx) (pv:=pv) (nx:=nx) hT s hX (Ts lK iE NC Yq EU hd) Hx.ok.lg Hx.ok.dk)) ?_)))))
      rintro v h ⟨rfl,s⟩
      refine zM rfl (zO rfl (cz rfl rfl) (zO rfl (cz rfl rfl) (zA rfl (zA rfl ?_))))
      refine aA.nil ⟨⟨aa,aa,aa,aa,aa,aa,aa,aa,aa,aa,aa,aa⟩,?_⟩
      refine zK 4 rfl ?_
      have s9:=bM.2 ⟨dv,s.ae [5,6]⟩
      have s:=((((s9.ae [7,0,6,0,0,0]).del 9).del 8).del 7).del 6
      by_cases he:(bn ε'.2 kd tx pv nx data c).1.2=0
      ·skip
       refine zh rfl (ag rfl rfl aX) (by simp; exact he) ?_
       refine zk 6 rfl (zc rfl (E0 hT s) ?_)
       rintro v h ⟨rfl,s⟩
       obtain ⟨nv,s⟩:=fy.1 s
       obtain ⟨vY,rfl⟩:=yE s (j:=1) rfl
       refine zk 6 rfl (zf rfl (t_ _ _) (zl rfl (s.ld (k:=0) rfl l_ rfl) (zc rfl (w_ hT s) ?_)))
       rintro v h ⟨kb,rfl,s⟩
       refine zc rfl (pP hT (s.ae [0,1]) (by decide) (by omega) mL) ?_
       intro kv h s
       have hl:(aJ now).length=now.length:=by rw [aJ,(er _).length_eq,d_]
       refine zo rfl (a_ rfl rfl rfl (s.iH (n:=(aJ now).length) (j:=0) rfl (by simp [eG]) (by decide) eu)) ?_
       refine zk 2 rfl (WP.block ?_)
       obtain ⟨aa_,es,clock,Qq,hb,m5,s⟩:=ep.1 (s.ae [2])
       injection Qq with Qq
       subst Qq
       obtain ⟨dv,s⟩:=bM.1 (s.ae [5])
       have s:=s.ae [6,2,2,0,3,3,3,1]
       refine N4 (op:=.cD) (dv:=dv) hT (ks:=aJ now) (now:=now) (aF:=(bn ε'.2 kd tx pv nx data c).1.1) (by omega) (fun n hn => ?_) nu (aJ now).length 0 (ε'.1,(bn ε'.2 kd tx pv nx data c).2) _ _ _ (by omega) ?_ ?_ s ⟨rfl,rfl,rfl,rfl,rfl,rfl,aa⟩ (fun e U E' h' hp xJ l4 l5 s' => ?_) (fun U E' h' hp gq s' => ?_)
       ·have:n∈now.map (·.1):=(er _).mem_iff.1 hn
        cases hq:lookL n now with
        | some _=>rfl
        | none=>exact absurd this (fU.1 hq)
       ·exact ⟨⟨Hx.ok.pl,VM.1,VM.2.1⟩,Hx.pins,Hx.full⟩
       ·have e1:cu (ε'.1,(bn ε'.2 kd tx pv nx data c).2)=cu ε':=by simp only [cu,VM.2.2.2.2.2.1]
        rw [e1,hl]; omega
       ·rw [dS] at hp
        have e4:look E' 4=some (.int .u64 ((0:Nat):Int)):=l4
        refine ⟨aa,_,ve e4 l5,0,e,true,U,?_,rfl,?_⟩
        ·have:=rV.put (data:=data) c ε' e U hq J I En hc he hp
         rwa [af xJ] at this
        ·have s3:=bM.2 ⟨dv,s'.ae [3,6]⟩
         have s4:=ep.2 ⟨vY,es,clock,rfl,hb,m5,s3.ae [2,2]⟩
         exact fy.2 ⟨.map vY,(s4.ae [2,0,0,0,0,0,1]).del 7⟩
       ·rw [dS] at hp
        have s:=s'
        refine WP.has gq (zK 6 rfl (WP.ret ⟨aa,_,rfl,?_⟩))
        refine ⟨_,0,true,U,?_,rfl,?_⟩
        ·have:=rV.put (data:=data) c ε' 0 U hq J I En hc he hp
         exact this
        ·have s3:=bM.2 ⟨dv,s.ae [3,6]⟩
         have s4:=ep.2 ⟨vY,es,clock,rfl,hb,m5,s3.ae [2,2]⟩
         dsimp only [bringA,getA,aU] at s4
         exact fy.2 ⟨.map vY,(s4.ae [2,0,0,0,0,0,1]).del 7⟩
      ·skip
       refine zt rfl (ag rfl rfl aX) (by simp; exact he) ?_
       exact zk 8 rfl (WP.ret ⟨aa,_,rfl,0,_,false,_,.app c ε' hq J I En hc he,rfl,s⟩)
end
end Go.Proofs.YtconhghphklfjaaGreat.Am
