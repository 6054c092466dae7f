/- SpacePlays: a part of its proof; conditions: its statement's. -/
import Derived.Test.YtefepnnfphdkpaaGreatE26
namespace Go.Proofs.YtefepnnfphdkpaaGreat.Am
open Go
theorem yj {b:List Nat}{n:Nat}(I:cj b=true): (dw b n).length=512:=by
 have J:=v_ (n:=n) (iQ I)
 rw [dw,cI (by rw [cJ]; omega),J]
def iZ (π:Pl)(n:Int)(b:List Nat)(aW:Nat): Int×Pl :=
 (if (kM π n b aW).1=0 then (unpinF (kM π n b aW).2 n).1 else (kM π n b aW).1,(unpinF (kM π n b aW).2 n).2)
def AX (π:Pl)(n:Int)(i:Nat)(f:Fm)(b:List Nat)(aW:Nat): Pl :=
 { π with aj:=π.aj.set i { f with b:=dw b aW,changed:=true,pins:=0 },br:=dO n (gI π n aW,true) π.br }
theorem B0 {π:Pl}{n:Int}{i:Nat}{f:Fm}{b:List Nat}{aW:Nat}(J:lookL n π.aI=some (i:Int))(I:π.aj[i]?=some f)(hp:f.pins=1)(hg:cj b=true): iZ π n b aW=(0,AX π n i f b aW):=by
 have h1:=(tu J I hp).1
 have hi:=(List.getElem?_eq_some_iff.1 I).1
 have e1:kM π n b aW=(0,{ π with aj:=π.aj.set i { f with b:=dw b aW,changed:=true },br:=dO n (gI π n aW,true) π.br }):=by
  simp only [kM,h1,I,hg,Bool.true_eq_false,bG]
 have e2:=(tu (π:={ π with aj:=π.aj.set i { f with b:=dw b aW,changed:=true },br:=dO n (gI π n aW,true) π.br }) (n:=n) (f:={ f with b:=dw b aW,changed:=true }) J (fu hi) hp).2
 simp only [iZ,e1,e2,bE,yW]
 rfl
theorem Mw {π:Pl}{n:Int}{i:Nat}{f:Fm}{b:List Nat}{aW:Nat}(J:lookL n π.aI=some (i:Int))(I:π.aj[i]?=some f)(hp:f.pins=1)(hg:cj b=false): iZ π n b aW=(4,{ π with aj:=π.aj.set i { f with pins:=0 } }):=by
 have h1:=(tu J I hp).1
 have e1:kM π n b aW=(4,π):=by simp only [kM,h1,I,hg,bE]
 have e2:=(tu J I hp).2
 simp only [iZ,e1,e2]
 rfl
theorem R_ {π:Pl}{n:Int}{b:List Nat}{aW:Nat}(h:π.Ok): (kM π n b aW).2.Ok:=by
 unfold kM
 split
 ·exact h
 ·split
  ·exact h
  ·rename_i f J
   have hm:=a_ J
   split
   ·exact h
   ·rename_i I
    have I:cj b=true:=by simpa using I
    exact h.set h.aI (by simp only [yj I]; omega) (h.pins f hm)
theorem fE.put {ε ε':aE}{n:Int}{b0 b:List Nat}{aW:Nat}(hr:fE ε n 0 b0 ε')(h:iR ε): iR ((iZ ε'.1 n b aW).2,ε'.2)∧Am.cr ((iZ ε'.1 n b aW).2,ε'.2)≤Am.cr ε+1∧(cj b=true→(iZ ε'.1 n b aW).1=0):=by
 have I:=hr.ok h.ok h.pins
 have J:=(hr.full h.ok.dk h.full).1
 obtain ⟨i,f,h1,h2,h3,h4,h5⟩:=hr.at h.pins
 have hm:=a_ h2
 have wq:=hr.cr
 cases hg:cj b with
 | true =>
  rw [B0 h1 h2 h3 hg]
  refine ⟨⟨⟨I.pl.set I.pl.aI (by simp only [yj hg]; omega) (by simp),I.lg,I.dk⟩,h5 _ rfl,J.set h2 rfl fun _=>yj hg⟩,?_,fun _=>rfl⟩
  have h6:=mz (g:={ f with b:=dw b aW,changed:=true,pins:=0 }) h2
  simp only [Bool.toNat_true] at h6
  simp only [Am.cr,AX] at wq ⊢
  omega
 | false =>
  rw [Mw h1 h2 h3 hg]
  refine ⟨⟨⟨I.pl.set I.pl.aI (I.pl.len f hm) (by simp),I.lg,I.dk⟩,h5 _ rfl,J.set h2 rfl fun hl=>hl⟩,?_,fun h=>by cases h⟩
  have h6:=mz (g:={ f with pins:=0 }) h2
  simp only [Am.cr] at wq h6 ⊢
  omega
inductive qL (now:List (Int×List Nat))(aW:Nat): List Int→aE→Int→aE→Prop where
 | nil (ε:aE):qL now aW [] ε 0 ε
 | iV (n:Int) (l:List Int) (ε:aE) (e:Int) (b:List Nat) (ε':aE) (hr:fE ε n e b ε') (he:e≠0):qL now aW (n::l) ε e ε'
 | bad (n:Int) (l:List Int) (ε:aE) (b0 b:List Nat) (ε':aE) (hr:fE ε n 0 b0 ε') (hb:lookL n now=some b) (he:(iZ ε'.1 n b aW).1≠0):qL now aW (n::l) ε (iZ ε'.1 n b aW).1 ((iZ ε'.1 n b aW).2,ε'.2)
 | put (n:Int) (l:List Int) (ε:aE) (b0 b:List Nat) (ε':aE) (e:Int) (lN:aE) (hr:fE ε n 0 b0 ε') (hb:lookL n now=some b) (he:(iZ ε'.1 n b aW).1=0) (ht:qL now aW l ((iZ ε'.1 n b aW).2,ε'.2) e lN):qL now aW (n::l) ε e lN
theorem qL.l9 {now:List (Int×List Nat)}{aW:Nat}{l:List Int}{ε ε':aE}{e:Int}(I:qL now aW l ε e ε')(h:iR ε): iR ε':=by
 induction I with
 | nil ε=>exact h
 | iV n l ε e b ε' I he=>exact ⟨I.ok h.ok h.pins,I.IK he h.pins,(I.full h.ok.dk h.full).1⟩
 | bad n l ε b0 b ε' I hb he=>exact (I.put h).1
 | put n l ε b0 b ε' e J I hb he ht ih=>exact ih (I.put h).1
theorem qL.cr {now:List (Int×List Nat)}{aW:Nat}{l:List Int}{ε ε':aE}{e:Int}(I:qL now aW l ε e ε')(h:iR ε): Am.cr ε'≤Am.cr ε+l.length:=by
 induction I with
 | nil ε=>exact aD _
 | iV n l ε e b ε' I he=>have:=I.cr; omega
 | bad n l ε b0 b ε' I hb he=>have:=(I.put (b:=b) (aW:=aW) h).2.1; simp only [aH]; omega
 | put n l ε b0 b ε' e J I hb he ht ih=>have h1:=ih (I.put h).1; have:=(I.put (b:=b) (aW:=aW) h).2.1; simp only [aH]; omega
theorem Wf {h:H}{id c:Nat}{es:cE}{n:Int}{u:V}{t kt et:TypeId}{k:IntKind}{z:V}(J:T.get h.tr id=some (.map (es.map eG) c))(he:lookE n es=some u)(hu:Tryz.prog.underlying t=some (.map kt et))(hk:Tryz.prog.underlying kt=some (.int k))(hz:zeroT Tryz.prog et=some z):
  eB Tryz.prog h t (.map id) (.int .i64 n) false=some u:=by
 have hi:=qz (n:=n) es 0
 simp only [eB,lookupV,hu,hk,hz,J,keyBeq,dg,ag,sj]
 cases I:idxE n es 0 with
 | none=>rw [I] at hi; rw [he] at hi; cases hi
 | some q=>rw [I] at hi; rw [he] at hi; obtain ⟨j,w⟩:=q; have:=bB hi; simp only at this; subst this; rfl
section
variable {told:cZ} {h:H} {S:List au} {X Y:au} {r k q p bR a g aO:Nat} {op v x u wh di:V} {l b dD data:List Nat} {now:List (Int×List Nat)} {bX:Bool} {ε:aE}
noncomputable def dnL : Code:=cV [1,1,1,1,1,1,1,1,0,1,0,0] ((Tryz.f26.body).getD .skip)
theorem Mx (hT:W told){ks:List Int}{kv dv:V}{aW vy c:Nat}{es:cE}(QD:ks.length≤65536)(Mv:∀n∈ks,(lookL n now).isSome=true)(wo:∀e∈now,e.2.length=512): ∀(j i:Nat) (ε:aE) (h:H) (E:List (Nat×V)) (Q:Ex→List (Nat×V)→H→Prop),i+j=ks.length →
  iR ε→cr ε+j≤268435456 →
  Sat h (pt g (.cells 3 [.ptr a 0,.map vy,.bool bX] false)::gQ vy es c::eM (fun v b=>.c5 v b) es now::pt a (.cells 6 (BX a p q r op dv aO) false)::cK r p q ε.1::bx q p ε.2.1::aL p ε.2.2::.arr 1 kv (eT ks)::S) →
  Has E [(0,.ptr g 0),(6,.ptr a 0),(8,.int .u64 (aW:Int)),(73,kv),(74,.int .i64 ks.length),(75,.int .i64 i)] →
  (∀e ε' E' h',qL now aW (ks.drop i) ε e ε'→e≠0→look E' 4=some (.int .u64 0)→look E' 5=some (.int .i64 e)→Sat h' (pt g (.cells 3 [.ptr a 0,.map vy,.bool bX] false)::gQ vy es c::eM (fun v b=>.c5 v b) es now::pt a (.cells 6 (BX a p q r op dv aO) false)::cK r p q ε'.1::bx q p ε'.2.1::aL p ε'.2.2::S)→Q .ret E' h') →
  (∀ε' E' h',qL now aW (ks.drop i) ε 0 ε'→Has E' [(8,.int .u64 (aW:Int))]→Sat h' (pt g (.cells 3 [.ptr a 0,.map vy,.bool bX] false)::gQ vy es c::eM (fun v b=>.c5 v b) es now::pt a (.cells 6 (BX a p q r op dv aO) false)::cK r p q ε'.1::bx q p ε'.2.1::aL p ε'.2.2::S)→Q (.exit 1) E' h') →
  WP ⟨Tryz.prog,told⟩ 118 (.loop dnL) E h Q:=by
 intro j
 induction j with
 | zero =>
  intro i ε h E Q hj I hw s hE hr hx
  refine WP.loop (WP.has hE (zg rfl (zh rfl (af rfl rfl aK) (by simp <;> omega) ?_)))
  refine zk 3 rfl (WP.exit ?_)
  rw [gR (by omega)] at hx
  exact hx ε _ _ (.nil ε) ⟨rfl,aa⟩ (s.del 7)
 | succ j ih =>
  intro i ε h E Q hj I hw s hE hr hx
  have hn:ks[i]?=some (ks[i]'(by omega)):=aN _
  have AF:ks[i]'(by omega)∈ks:=pJ _
  have oY:ks.drop i=ks[i]'(by omega)::ks.drop (i+1):=rG (by omega)
  generalize (ks[i]'(by omega))=n at hn AF oY
  have hc:(eT ks)[i]?=some (.int .i64 n):=by simp [eT,hn]
  obtain ⟨b,hb⟩:=Option.isSome_iff_exists.1 (Mv n AF)
  have ED:=wo _ (kE hb)
  simp only at ED
  rw [oY] at hr hx
  obtain ⟨id,off,e1,e2⟩:=fY (P:=Tryz.prog) s (k:=7) rfl hc cM kA
  refine WP.loop (WP.has hE (zg rfl (zt rfl (af rfl rfl aK) (by simp <;> omega) ?_)))
  refine zk 5 rfl (WP.block (zg rfl (zo rfl (cn (r:=.ptr id off) rfl rfl e1) (zl rfl (e2 _ cA) (zk 7 rfl (zf rfl (nk _ _) (zl rfl (s.ld (k:=3) rfl rz rfl) (zm rfl (zc rfl (Mf (n:=n) hT (s.ae [4,4,4]) I.ok.pl I.pins I.ok.lg I.ok.dk (by have:=qf (ε:=ε); omega)) ?_)))))))))
  rintro v h ⟨e,b0,ε',Gc,(⟨he,rfl,s⟩ | ⟨rfl,u0,rfl,s⟩)⟩
  ·dsimp only [bringA,getA,bf] at s
   refine zk 9 rfl (zt rfl (af rfl rfl aG) (by simp; exact he) ?_)
   exact zk 8 rfl (WP.ret (hr e ε' _ _ (.iV n _ ε e b0 ε' Gc he) he rfl rfl ((s.ae [3,3,3,3,0,0,0]).del 7)))
  ·dsimp only [bringA,getA,bf] at s
   have s:=s.drop
   have Kg:=Gc.put (b:=b) (aW:=aW) I
   have wQ:=Gc.ok I.ok I.pins
   refine zk 9 rfl (zh rfl (af rfl rfl aG) (rfl) (zk 4 rfl ?_))
   have s1:Sat h (eM (fun v b=>.c5 v b) es now::_):=s.ae [5]
   obtain ⟨_,_,_,_,q3⟩:=s1.at (k:=0) rfl
   rcases rB (n:=n) q3 with ⟨_,q4⟩ | ⟨u,b',g1,g2,_⟩
   ·rw [hb] at q4; cases q4
   rw [hb] at g2
   have:=bB g2
   subst this
   have s2:=(s1.dup (aX.JS (fun _ _=>aX.c5 _ _) _ _)).iU (B:=.c5 u b) fun a' b' h'=>by
    rcases rB (n:=n) h' with ⟨_,q4⟩ | ⟨u',WN,Xu,Xv,Uj⟩
    ·rw [hb] at q4; cases q4
    ·rw [g1] at Xu; rw [hb] at Xv
     have h5:=bB Xu
     have h6:=bB Xv
     subst h5; subst h6
     exact Uj
   dsimp only [bringA,getA,bf] at s2
   obtain ⟨uid,aay,aaz,rfl⟩:=iu (s2.aU (k:=0) rfl (fe _ _)) (by omega)
   have s:=s2.ae [2,0]
   dsimp only [bringA,getA,bf] at s
   have s0:=s
   refine WP.drawn [ai,ai,ai,ai,ai,ai,ai,ai,ai,ai,ai,ai,ai,ai] rfl (by kernel_rfl) (by kernel_rfl) ?_
   refine zM rfl (zN rfl (zF rfl (nk _ _) (zL rfl (s.ld (k:=7) rfl rz rfl) (zM rfl (zM rfl (zN rfl (zF rfl (pU _ _) (zL rfl (s.ld (k:=5) rfl mI rfl) (zM rfl (zO rfl (iD rfl rfl (Wf (s.row (k:=6) rfl) g1 nK bI qR)) (zM rfl (aA.any rfl rfl rfl rfl (OpR.call rfl rfl rfl rfl (RV (n:=n) (aW:=aW) (b:=b) hT s (fe _ _) wQ.pl (by omega))) ?_))))))))))))
   rintro v h ⟨rfl,s⟩
   refine zA rfl ?_
   refine aA.nil ⟨⟨aa,aa,aa,aa,aa,aa,aa,aa,aa,aa,aa,aa,aa,aa,aa⟩,?_⟩
   refine zK 5 rfl (zf rfl (nk _ _) (zl rfl (s.ld (k:=7) rfl rz rfl) (zm rfl (zc rfl (FW (n:=n) hT s (R_ wQ.pl)) ?_))))
   rintro v h ⟨rfl,s⟩
   refine zk 5 rfl ?_
   by_cases hg:(kM ε'.1 n b aW).1=0
   ·have IN:(iZ ε'.1 n b aW).1=(unpinF (kM ε'.1 n b aW).2 n).1:=by simp only [iZ,hg,bE]
    have QH:(iZ ε'.1 n b aW).2=(unpinF (kM ε'.1 n b aW).2 n).2:=rfl
    rw [←IN,←QH] at *
    refine zt rfl (af rfl rfl dh) (by simp; exact hg) ?_
    refine zk 9 rfl ?_
    by_cases he:(iZ ε'.1 n b aW).1=0
    ·skip
     refine zh rfl (af rfl rfl aG) (by simp; exact he) ?_
     refine zv (zj rfl (WP.skip (zr rfl (zb rfl (by exact bg (aB (by omega) (by omega))) ?_))))
     refine zm rfl (zv ?_)
     have s9:=(s.ae [5,5,2,4,0,1,1,1]).del 8
     refine ih (i+1) ((iZ ε'.1 n b aW).2,ε'.2) _ _ Q (by omega) Kg.1 (by have h9:cr ((iZ ε'.1 n b aW).2,ε'.2)≤cr ε+1:=Kg.2.1; omega) s9 ⟨rfl,rfl,rfl,rfl,rfl,rfl,aa⟩ (fun e J E' h' ht wK l4 l5 s' => ?_) (fun J E' h' ht jl s' => ?_)
     ·exact hr e J E' h' (.put n _ ε b0 b ε' e J Gc hb he ht) wK l4 l5 s'
     ·exact hx J E' h' (.put n _ ε b0 b ε' 0 J Gc hb he ht) jl s'
    ·skip
     refine zt rfl (af rfl rfl aG) (by simp; exact he) ?_
     exact zk 8 rfl (WP.ret (hr _ _ _ _ (.bad n _ ε b0 b ε' Gc hb he) he rfl rfl (((s.ae [5,5,2,4,0,1,1,1]).del 8).del 7)))
   ·have IN:(iZ ε'.1 n b aW).1=(kM ε'.1 n b aW).1:=by simp only [iZ,hg,bG]
    have QH:(iZ ε'.1 n b aW).2=(unpinF (kM ε'.1 n b aW).2 n).2:=rfl
    rw [←IN] at hg
    refine zh rfl (af rfl rfl dh) (by simp; rw [←IN]; exact hg) ?_
    refine zk 6 rfl (zt rfl (af rfl rfl aG) (by simp; rw [←IN]; exact hg) ?_)
    refine zk 8 rfl (WP.ret (hr _ _ _ _ (.bad n _ ε b0 b ε' Gc hb hg) hg rfl (by rw [IN]; rfl) ?_))
    exact ((s.ae [5,5,2,4,0,1,1,1]).del 8).del 7
end
theorem wR.fit {pg:Int}{dD now:List Nat}{i:Nat}{l:List dG}(J:wR pg dD now i l)(hn:now.length=512)(h0:0≤pg)(h1:pg<65536): ∀c∈l,c.Ok∧c.b.length≤512:=by
 induction J with
 | done i h=>intro c I; cases I
 | skip i l h he J ih=>exact ih
 | take i e l h2 h3 _ _ J ih =>
  intro c I
  rcases List.mem_cons.1 I with rfl | I
  ·have hl:((now.take e).drop i).length=e-i:=by simp; omega
   refine ⟨⟨h0,h1,by simp,by simp only; omega,by simp only [hl]; omega,by simp⟩,by simp only [hl]; omega⟩
  ·exact ih c I
theorem Ms.fit {pg:Int}{dD now:List Nat}{l:List dG}(hr:Ms pg dD now l)(hn:now.length=512)(I:0≤pg)(J:pg<65536): ∀c∈l,c.Ok∧c.b.length≤512:=by
 obtain ⟨m,h2,rfl⟩:=hr
 split
 ·intro c hc
  rw [List.mem_singleton.1 hc]
  exact ⟨⟨I,J,by simp,by simp,by simp,by simp⟩,by simp⟩
 ·exact h2.fit hn I J
theorem kG.fit {now:List (Int×List Nat)}{l:List Int}{ε ε':aE}{e:Int}{cs:List dG}(hr:kG now l ε e cs ε')(J:∀x∈now,x.2.length=512)(hl:∀n∈l,0≤n∧n<65536): ∀c∈cs,c.Ok∧c.b.length≤512:=by
 induction hr with
 | nil ε=>intro c hc; cases hc
 | err n l ε e b ε' hr he=>intro c hc; cases hc
 | part n l ε dD b ε' c e cs lN hr hb hd hc kQ ht ih =>
  intro x I
  have hn:=hl n ct
  rcases List.mem_append.1 I with I | I
  ·exact hc.fit (J _ (kE hb)) hn.1 hn.2 x I
  ·exact ih (fun m hm=>hl m (b6 _ hm)) x I
 | whole n l ε dD b ε' e cs lN hr hb hd ht ih =>
  intro x I
  have hn:=hl n ct
  have hb:=J _ (kE hb)
  rcases List.mem_cons.1 I with rfl | I
  ·exact ⟨⟨hn.1,hn.2,by simp,by simp,by simp only at hb ⊢; omega,fun _=>⟨rfl,hb⟩⟩,by simp only at hb ⊢; omega⟩
  ·exact ih (fun m hm=>hl m (b6 _ hm)) x I
theorem ue : ∀(f n:Nat),(digits f n).length≤f+1:=by
 intro f
 induction f with
 | zero=>intro n; simp [digits]
 | succ f I =>
  intro n
  unfold digits
  split
  ·simp
  ·have:=I (n/128)
   simp only [aH]
   omega
theorem UM {c:dG}(I:c.b.length≤512): (mW c).length≤543:=by
 have J:=ue 9 c.bn.toNat
 have h2:=ue 9 c.pos.toNat
 have h3:=ue 9 c.b.length
 simp only [mW,bU,aH,bM]
 omega
theorem Sa : ∀ {l:List dG},(∀c∈l,c.b.length≤512)→(l.flatMap mW).length≤543*l.length:=by
 intro l
 induction l with
 | nil=>intro _; simp
 | cons c l I =>
  intro h
  have h1:=UM (h c ct)
  have h2:=I fun x J=>h x (b6 _ J)
  simp only [uO,bU,aH]
  omega
theorem Sb {l:List dG}{tx pv nx:Nat}{data:List Nat}(hl:l.length≤33554432)(h:∀c∈l,c.Ok∧c.b.length≤512)(J:tx<18446744073709551616)(Qz:pv<18446744073709551616)(DR:nx<18446744073709551616)(hd:data.length≤35184372088832): BO tx pv nx data l:=by
 have h2:=Sa fun c I=>(h c I).2
 refine ⟨⟨by omega,fun c I=>by have:=(h c I).2; omega,fun c I => ?_⟩,J,Qz,DR,by omega⟩
 have:=(h c I).1
 simp only [dG.Ok] at this
 omega
theorem Gd {l:List dG}{kd:Int}(I:1≤kd∧kd≤9)(h:∀c∈l,c.Ok∧c.b.length≤512): eU kd l=true:=by
 simp only [eU,aJ,eu,m9]
 exact ⟨I,fun c J=>(h c J).1⟩
inductive yl (ε:aE)(now:List (Int×List Nat))(kd:Int)(tx pv nx:Nat)(data:List Nat)(pE:Nat): Nat→Int→Bool→aE→Prop where
 | arg (h:¬(1≤kd∧kd≤7)∨0<pE):yl ε now kd tx pv nx data pE 0 1 false ε
 | dead (h1:1≤kd) (h2:kd≤7) (h3:pE=0) (h:ε.2.2.dead=true):yl ε now kd tx pv nx data pE 0 9 false ε
 | pq (e:Int) (c:List dG) (ε':aE) (h1:1≤kd) (h2:kd≤7) (h3:pE=0) (h:ε.2.2.dead=false) (hc:kG now (bw now) ε e c ε') (he:e≠0):yl ε now kd tx pv nx data pE 0 e false ε'
 | app (c:List dG) (ε':aE) (h1:1≤kd) (h2:kd≤7) (h3:pE=0) (h:ε.2.2.dead=false) (hc:kG now (bw now) ε 0 c ε') (he:(bp ε'.2 kd tx pv nx data c).1.2≠0):yl ε now kd tx pv nx data pE 0 (bp ε'.2 kd tx pv nx data c).1.2 false (ε'.1,(bp ε'.2 kd tx pv nx data c).2)
 | put (c:List dG) (ε':aE) (e:Int) (lN:aE) (h1:1≤kd) (h2:kd≤7) (h3:pE=0) (h:ε.2.2.dead=false) (hc:kG now (bw now) ε 0 c ε') (ha:(bp ε'.2 kd tx pv nx data c).1.2=0) (hp:qL now (bp ε'.2 kd tx pv nx data c).1.1 (bw now) (ε'.1,(bp ε'.2 kd tx pv nx data c).2) e lN) :
   yl ε now kd tx pv nx data pE (if e=0 then (bp ε'.2 kd tx pv nx data c).1.1 else 0) e true lN
structure uf (ε ε':aE): Prop where
 base:ε'.2.1.base=ε.2.1.base
 b:ε'.2.1.b=ε.2.1.b
 bD:ε'.2.1.bD=ε.2.1.bD
 check:ε'.2.1.check=ε.2.1.check
 log:ε'.2.2.log=ε.2.2.log
 room:ε'.2.2.room=ε.2.2.room
 aM:ε'.2.2.aM=ε.2.2.aM
theorem uf.refl (ε:aE): uf ε ε:=⟨rfl,rfl,rfl,rfl,rfl,rfl,rfl⟩
theorem uf.trans {a b c:aE}(x:uf a b)(y:uf b c): uf a c :=
 ⟨y.base.trans x.base,y.b.trans x.b,y.bD.trans x.bD,y.check.trans x.check,y.log.trans x.log,y.room.trans x.room,y.aM.trans x.aM⟩
theorem nt {δ:Dk}: δ.gH.2.log=δ.log∧δ.gH.2.room=δ.room∧δ.gH.2.aM=δ.aM:=by
 unfold Dk.gH
 split
 ·exact ⟨rfl,rfl,rfl⟩
 ·split <;> exact ⟨rfl,rfl,rfl⟩
theorem wu {δ:Dk}{n:Int}{b:List Nat}: (δ.dc n b).2.log=δ.log∧(δ.dc n b).2.room=δ.room∧(δ.dc n b).2.aM=δ.aM:=by
 unfold Dk.dc
 split
 ·exact ⟨rfl,rfl,rfl⟩
 ·split
  ·exact ⟨rfl,rfl,rfl⟩
  ·split <;> exact ⟨rfl,rfl,rfl⟩
theorem ym {π:Pl}{x:LD}{n:Nat}: uf (π,x) (π,(bH x n).2):=by
 unfold bH
 split
 ·exact uf.refl _
 ·split
  ·exact ⟨rfl,rfl,rfl,rfl,nt.1,nt.2.1,nt.2.2⟩
  ·exact ⟨rfl,rfl,rfl,rfl,nt.1,nt.2.1,nt.2.2⟩
theorem uf.to {π:Pl}{ε ε':aE}(h:uf ε ε'): uf ε (π,ε'.2):=⟨h.base,h.b,h.bD,h.check,h.log,h.room,h.aM⟩
structure lV (R:LD→Prop): Prop where
 force:∀(x:LD) (n:Nat),R x→R (bH x n).2
 write:∀(x:LD) (n:Int) (b:List Nat),R x→R (x.1,(x.2.dc n b).2)
section
variable {R:LD→Prop} {ε ε':aE} {n e:Int} {b:List Nat} {now bS:List (Int×List Nat)} {bX:Bool} {l:List Int} {cs:List dG} {aW:Nat}
theorem lV.out (h:lV R){ε:aE}{i:Nat}(I:R ε.2): R (outF ε i).2.2:=by
 unfold outF
 split
 ·exact I
 ·split
  ·exact I
  ·split
   ·exact I
   ·split
    ·exact h.force _ _ I
    ·split
     ·exact h.write _ _ _ (h.force _ _ I)
     ·exact h.write _ _ _ (h.force _ _ I)
theorem lV.iV (h:lV R)(hr:fE ε n e b ε')(J:R ε.2): R ε'.2:=by
 cases hr with
 | arg hn=>exact J
 | Ay i f h1 h2 hl hf=>exact J
 | out I i f h1 h2 hl hn hf hh he=>exact h.out (ε:=(I,ε.2)) J
 | read I i f h1 h2 hl hn hf hh he hr=>exact h.out (ε:=(I,ε.2)) J
 | bad I i f h1 h2 hl hn hf hh he hr hc=>exact h.out (ε:=(I,ε.2)) J
 | load I i f h1 h2 hl hn hf hh he hr hc=>exact h.out (ε:=(I,ε.2)) J
theorem lV.rd (h:lV R)(I:mJ ε n e b ε')(J:R ε.2): R ε'.2:=by
 cases I with
 | dead hd=>exact J
 | iV e b ε' hd I he=>exact h.iV I J
 | rD b ε' hd I he=>exact h.iV (ε':=ε') I J
 | read b ε' hd I he=>exact h.iV (ε':=ε') I J
theorem lV.yn (h:lV R)(J:oG ε now bX n e b ε')(I:R ε.2): R ε'.2:=by
 cases J with
 | arg hn=>exact I
 | bX _ _ _=>exact I
 | own b h1 h2 _ hl=>exact I
 | read e b ε' h1 h2 _ hl J=>exact h.rd J I
theorem lV.My (h:lV R)(I:tv ε now bX n b e bS ε')(J:R ε.2): R ε'.2:=by
 cases I with
 | may e c ε' I he=>exact h.yn I J
 | bad c ε' I hg=>exact h.yn I J
 | done c ε' I hg=>exact h.yn I J
theorem lV.ch (h:lV R)(I:kG now l ε e cs ε'): R ε.2→R ε'.2:=by
 induction I with
 | nil ε=>exact fun J=>J
 | err n l ε e b ε' I he=>exact h.rd I
 | part n l ε dD b ε' c e cs lN I hb hd hc kQ ht ih=>exact fun J=>ih (h.rd I J)
 | whole n l ε dD b ε' e cs lN I hb hd ht ih=>exact fun J=>ih (h.rd I J)
theorem lV.pt (h:lV R)(I:qL now aW l ε e ε'): R ε.2→R ε'.2:=by
 induction I with
 | nil ε=>exact fun J=>J
 | iV n l ε e b ε' I he=>exact h.iV I
 | bad n l ε b0 b ε' I hb he=>exact h.iV (ε':=ε') I
 | put n l ε b0 b ε' e lN I hb he ht ih=>exact fun J=>ih (h.iV (ε':=ε') I J)
theorem Mz (ε:aE): lV fun y=>uf ε (ε.1,y) :=
 ⟨fun _ _ h=>h.trans ym,fun _ _ _ h=>h.trans ⟨rfl,rfl,rfl,rfl,wu.1,wu.2.1,wu.2.2⟩⟩
theorem kG.same (I:kG now l ε e cs ε'): uf ε ε':=((Mz ε).ch I (uf.refl ε)).to
end
theorem O3 {m:Nat}: ∀ {l:List Nat},l.Pairwise (· < ·)→(∀s∈l,s<m)→l.length≤m:=by
 intro l I J
 have key:∀(l:List Nat) (k:Nat),l.Pairwise (· < ·)→(∀s∈l,k≤s∧s<m)→k+l.length≤m∨l=[]:=by
  intro l
  induction l with
  | nil=>intro k _ _; exact .inr rfl
  | cons x l ih =>
   intro k I J
   simp only [pI] at I
   have hx:=J x ct
   rcases ih (x+1) I.2 (fun s hs=>⟨I.1 s hs,(J s (b6 _ hs)).2⟩) with h | rfl
   ·left; simp only [aH]; omega
   ·left; simp; omega
 rcases key l 0 I (fun s hs=>⟨gV _,J s hs⟩) with h | rfl
 ·omega
 ·simp
theorem lG (x:LD)(kd:Int)(tx pv nx:Nat)(data:List Nat)(c:List dG):
  (∃e:Int,e≠0∧((e=1∧eU kd c=false)∨(e=2∧1048576<(eN kd tx pv nx data c).length)∨(e=9∧x.2.dead=true)∨(e=7∧x.2.room<x.2.log.length+(cO x.1 kd tx pv nx data c).length))∧bp x kd tx pv nx data c=((0,e),x)) ∨
  (x.2.dead=false∧x.2.bj=0∧bp x kd tx pv nx data c=((0,9),(x.1,{ x.2.die with tail:=cO x.1 kd tx pv nx data c }))) ∨
  (eU kd c=true∧(eN kd tx pv nx data c).length≤1048576∧x.2.dead=false∧x.2.log.length+(cO x.1 kd tx pv nx data c).length≤x.2.room∧x.2.bj≠0 ∧
   bp x kd tx pv nx data c=((x.1.base+x.1.b.length,0),(x.1.app (cO x.1 kd tx pv nx data c),{ x.2.c6 with log:=x.2.log++cO x.1 kd tx pv nx data c }))):=by
 by_cases I:eU kd c=false
 ·exact .inl ⟨1,by decide,.inl ⟨rfl,I⟩,by rw [bp,aq I]⟩
 ·by_cases hb:1048576<(eN kd tx pv nx data c).length
  ·exact .inl ⟨2,by decide,.inr (.inl ⟨rfl,hb⟩),by rw [bp,ah I,aq hb]⟩
  ·by_cases J:x.2.dead=true
   ·have e:x.2.jN (cO x.1 kd tx pv nx data c)=(9,x.2):=by rw [Dk.jN,aq J]
    exact .inl ⟨9,by decide,.inr (.inr (.inl ⟨rfl,J⟩)),by rw [bp,ah I,ah hb,e,aq (by simp)]⟩
   ·by_cases hr:x.2.room<x.2.log.length+(cO x.1 kd tx pv nx data c).length
    ·have e:x.2.jN (cO x.1 kd tx pv nx data c)=(7,x.2):=by rw [Dk.jN,ah J,aq hr]
     exact .inl ⟨7,by decide,.inr (.inr (.inr ⟨rfl,hr⟩)),by rw [bp,ah I,ah hb,e,aq (by simp)]⟩
    ·by_cases hf:x.2.bj=0
     ·have e:x.2.jN (cO x.1 kd tx pv nx data c)=(9,{ x.2.die with tail:=cO x.1 kd tx pv nx data c }):=by rw [Dk.jN,ah J,ah hr,aq hf]
      exact .inr (.inl ⟨by simpa using J,hf,by rw [bp,ah I,ah hb,e,aq (by simp)]⟩)
     ·have e:x.2.jN (cO x.1 kd tx pv nx data c)=(0,{ x.2.c6 with log:=x.2.log++cO x.1 kd tx pv nx data c }):=by rw [Dk.jN,ah J,ah hr,ah hf]
      exact .inr (.inr ⟨by simpa using I,by omega,by simpa using J,by omega,hf,by rw [bp,ah I,ah hb,e,ah (by simp)]⟩)
theorem uA {x:LD}{kd:Int}{tx pv nx:Nat}{data:List Nat}{c:List dG}(J:x.1.Ok)(I:x.2.Ok)(hs:x.1.b=x.2.log)(hz:x.1.base+x.1.b.length+1048584≤1099511627776):
  (bp x kd tx pv nx data c).2.1.Ok∧(bp x kd tx pv nx data c).2.2.Ok∧(bp x kd tx pv nx data c).2.1.b=(bp x kd tx pv nx data c).2.2.log∧(bp x kd tx pv nx data c).2.1.base=x.1.base∧(bp x kd tx pv nx data c).2.1.b.length≤x.1.b.length+1048584 ∧
  (bp x kd tx pv nx data c).2.2.waiting=x.2.waiting∧(bp x kd tx pv nx data c).1.1<1099511627776:=by
 have hlen:(cO x.1 kd tx pv nx data c).length=8+(eN kd tx pv nx data c).length:=nR _ _
 rcases lG x kd tx pv nx data c with ⟨e,_,_,h⟩ | ⟨hd,hf,h⟩ | ⟨hg,hb,hd,fS,hf,h⟩
 ·rw [h]; exact ⟨J,I,hs,rfl,rN _ _,rfl,by simp⟩
 ·rw [h]; exact ⟨J,⟨I.bj,I.len,I.room,I.now,I.aM,I.bT,I.many⟩,hs,rfl,rN _ _,rfl,by simp⟩
 ·rw [h]
  generalize cO x.1 kd tx pv nx data c=rc at hlen fS
  have aaa:=I.room
  have ku:x.1.b.length=x.2.log.length:=by rw [hs]
  have hl:(x.1.b++rc).length=x.1.b.length+rc.length:=bU
  have jQ:(x.2.log++rc).length=x.2.log.length+rc.length:=bU
  refine ⟨⟨?_,?_,?_,?_,?_,?_,J.check⟩,⟨I.c6.bj,?_,I.room,I.now,I.aM,?_,I.many⟩,?_,rfl,?_,rfl,?_⟩
  ·show x.1.base+(x.1.b++rc).length≤_; omega
  ·have h1:=O3 J.we J.low
   show (x.1.bD++[x.1.b.length]).length≤_
   simp only [bU,aH,bM]; omega
  ·intro s hm
   show s<(x.1.b++rc).length
   rcases List.mem_append.1 (show s∈x.1.bD++[x.1.b.length] from hm) with hm | hm
   ·have:=J.low s hm; omega
   ·rw [List.mem_singleton.1 hm]; omega
  ·show (x.1.bD++[x.1.b.length]).Pairwise (·< ·)
   rw [List.pairwise_append]
   refine ⟨J.we,List.pairwise_singleton _ _,fun a ha b hb => ?_⟩
   rw [List.mem_singleton.1 hb]
   exact J.low a ha
  ·have:=J.forced
   show x.1.forced≤(x.1.b++rc).length; omega
  ·show (x.1.b++rc).length≤_; omega
  ·show (x.2.log++rc).length≤_; omega
  ·have:=I.bT
   show x.2.bT≤(x.2.log++rc).length; omega
  ·show x.1.b++rc=x.2.log++rc; rw [hs]
  ·show (x.1.b++rc).length≤_; omega
  ·show x.1.base+x.1.b.length<_; omega
theorem wf_i64 {n:Int}(I:0≤n)(J:n<4294967296): (Lit.int .i64 n).wf=true:=by
 simp only [Lit.wf,aJ,eu]
 have e1:IntKind.min .i64 = -9223372036854775808:=rfl
 have e2:IntKind.max .i64=9223372036854775807:=rfl
 omega
theorem Sc {kd:Int}{tx pv nx:Nat}{I ch:V}(J:I.beq I=true)(hc:ch.beq ch=true): (V.agg (oD kd tx pv nx I ch)).beq (V.agg (oD kd tx pv nx I ch))=true:=by
 simp only [oD,V.beq,V.beqL,J,hc,dg,lR,uX,gA,ag]
section
variable {told:cZ} {h:H} {S:List au} {X Y:au} {r k q p bR a g aO:Nat} {op v x u wh di:V} {l b dD data dI:List Nat} {now:List (Int×List Nat)} {bX:Bool} {ε:aE}
theorem Sd (hT:W told){kd:Int}{tx pv nx pE:Nat}{dt ch:V}{Xw:List V}(s:Sat h (fh g a now false::dx a p q r (.ptr g 0) dI aO::cK r p q ε.1::bx q p ε.2.1::aL p ε.2.2::X::.arr 4 ch Xw::S))(hX:c8 X (c9 dt data))(Fz:Xw.length=pE*4)(fF:iR ε)(hw:cr ε+65536≤268435456)
 (wo:∀e∈now,e.2.length=512)(hm:now.length≤65536)(hk:∀n∈now.map (·.1),0≤n∧n<65536)(IF:tx<18446744073709551616)(Qz:pv<18446744073709551616)(DR:nx<18446744073709551616)(hd:data.length≤35184372088832)(O4:ε.2.1.b=ε.2.2.log)(hz:ε.2.1.base+ε.2.1.b.length+1048584≤1099511627776):
  Call ⟨Tryz.prog,told⟩ 26 [.ptr g 0,.agg (oD kd tx pv nx dt ch)] h fun v h'=>∃aW e cl ε',yl ε now kd tx pv nx data pE aW e cl ε'∧v=.aY [.int .u64 (aW:Int),.int .i64 e] ∧
   Sat h' (fh g a now cl::dx a p q r (cond cl .b7 (.ptr g 0)) dI aO::cK r p q ε'.1::bx q p ε'.2.1::aL p ε'.2.2::X::S):=by
 have iS:∀n∈now.map (·.1),(Lit.int .i64 n).wf=true:=fun n hn=>by
  have:=hk n hn
  exact wf_i64 (by omega) (by omega)
 have xU:=s.lD (j:=6) rfl
 have qG:=s.aU (k:=5) rfl hX
 have gq:=xR (kd:=kd) (tx:=tx) (pv:=pv) (nx:=nx) qG.cells.2 xU.2.1
 have hlen:=s.eY (n:=pE) (j:=6) rfl Fz (by decide) jW
 have s0:=s
 obtain ⟨nv,s⟩:=dV.1 s
 refine Call.of_wp (hT.free _ rfl) Tryz.func26 rfl rfl (zg rfl (az.cz s rfl rfl rfl (fc rfl gq) ?_))
 intro p1 h s
 dsimp only [V.cells] at s
 have s:Sat h (pt p1 (.cells 6 (oD kd tx pv nx dt ch) false)::_):=s
 have hlen:=s.eY (n:=pE) (j:=8) rfl Fz (by decide) jW
 refine zk 7 rfl (zf rfl (ou _ _) (zl rfl (s.ld (k:=1) rfl xF rfl) (zk 3 rfl (WP.block (zK 4 rfl (zf rfl (zC _ _) (zh rfl (aR rfl (s.ld (k:=1) rfl kB rfl)) (rfl) (zk 5 rfl (zf rfl (xG _ _) (zl rfl (s.ld (k:=0) rfl cA rfl) ?_))))))))))
 have fin:∀e:Int,Sat h (fh g a now false::dx a p q r (.ptr g 0) dI aO::cK r p q ε.1::bx q p ε.2.1::aL p ε.2.2::X::S):=fun e=>((dV.2 ⟨nv,s.ae [1,1]⟩).del 7).del 1
 refine zd rfl (af rfl rfl aK) ?_ ?_
 ·intro hq
  have hq:kd<1:=by simpa using hq
  exact zk 19 rfl (WP.ret ⟨aa,_,rfl,0,1,false,ε,.arg (.inl (by omega)),rfl,fin 0⟩)
 ·intro hq
  have hq:1≤kd:=by simp at hq; omega
  refine zm rfl (zf rfl (xG _ _) (zl rfl (s.ld (k:=0) rfl cA rfl) ?_))
  refine zd rfl (af rfl rfl er) ?_ ?_
  ·intro J
   have J:7<kd:=by simpa using J
   exact zk 15 rfl (WP.ret ⟨aa,_,rfl,0,1,false,ε,.arg (.inl (by omega)),rfl,fin 0⟩)
  ·intro J
   have J:kd≤7:=by simp at J; omega
   refine zk 2 rfl (zf rfl (sU _ _) (zl rfl (s.ld (k:=0) rfl CQ rfl) (zo rfl (aT rfl rfl rfl hlen) ?_)))
   refine zd rfl (af rfl rfl er) ?_ ?_
   ·intro I
    have I:0<pE:=by simp at I; omega
    exact zk 9 rfl (WP.ret ⟨aa,_,rfl,0,1,false,ε,.arg (.inr I),rfl,fin 0⟩)
   ·intro I
    have I:pE=0:=by simp at I; omega
    obtain ⟨dv,s⟩:=b5.1 (s.ae [3])
    dsimp only [bringA,getA,bf] at s
    refine zk 8 rfl (zf rfl (r9 _ _) (zl rfl (s.ld (k:=0) rfl jU rfl) (zc rfl (v8 hT (s.ae [7])) ?_)))
    rintro v h ⟨rfl,rfl⟩
    refine zk 2 rfl ?_
    cases sF:ε.2.2.dead with
    | true =>
     refine zK 6 rfl (WP.ret ⟨aa,_,rfl,?_⟩)
     have s9:=dV.2 ⟨nv,(b5.2 ⟨dv,s⟩).ae [2,2]⟩
     dsimp only [bringA,getA,bf] at s9
     exact ⟨0,9,false,ε,.dead hq J I sF,rfl,(s9.del 7).del 2⟩
    | false =>
     refine zj rfl (WP.skip (zg rfl (za rfl (zv (zw (zg rfl (zm rfl ?_)))))))
     have s9:=dV.2 ⟨nv,(b5.2 ⟨dv,s⟩).ae [2,2]⟩
     dsimp only [bringA,getA,bf] at s9
     have s:=s9.ae [0,0,1,1,1]
     dsimp only [bringA,getA,bf] at s
     refine zc rfl (Kf hT s fF (by omega) wo hm iS) ?_
     rintro v h ⟨e,c,ε',hc,(⟨he,rfl,s⟩ | ⟨rfl,kQ,av,cs,rfl,s⟩)⟩
     ·refine az.op rfl rfl rfl (bF rfl) ?_
      refine zk 2 rfl (zf rfl (sU _ _) ?_)
      refine zS rfl (by exact s.gO (k:=5) rfl T6 rfl (by decide) rfl rfl) (fun h s => ?_)
      dsimp only [oD,Nat.reduceAdd,List.set,setA] at s
      refine zk 5 rfl (zt rfl (af rfl rfl aG) (by simp; exact he) ?_)
      exact zk 8 rfl (WP.ret ⟨aa,_,rfl,0,e,false,ε',.pq e c ε' hq J I sF hc he,rfl,(s.del 7).del 5⟩)
     ·have QG:=s.lD (j:=0) rfl
      have Ge:=hc.l9 fF
      have Z7:=hc.cr
      have BP:=hc.same
      have UN:=uA (x:=ε'.2) (kd:=kd) (tx:=tx) (pv:=pv) (nx:=nx) (data:=data) (c:=c) Ge.ok.lg Ge.ok.dk (by rw [BP.b,BP.log]; exact O4) (by rw [BP.base,BP.b]; exact hz)
      have fS:=hc.fit wo fun n hn=>hk n ((e_ _).mem_iff.1 hn)
      refine zk 3 rfl (zf rfl (sU _ _) (zS rfl (s.gO (k:=7) rfl T6 rfl (show 0+5<6 by decide) QG.1 QG.2.1) ?_))
      intro h s
      dsimp only [oD,Nat.reduceAdd,List.set,setA] at s
      refine zk 5 rfl (zh rfl (af rfl rfl aG) (rfl) ?_)
      obtain ⟨dv,s⟩:=b5.1 (s.ae [3])
      dsimp only [bringA,getA,bf] at s
      have s:=s.ae [6,6,7,2,2,0,3]
      dsimp only [bringA,getA,bf] at s
      refine zv (zj rfl (WP.skip (zw ?_)))
      have s0:=s
      have YB:=gY qG
      have hrb:=Sc (kd:=kd) (tx:=tx) (pv:=pv) (nx:=nx) YB QG.2.2
      refine WP.drawn [ai,ai,ai,ai,ai,ai,ai,ai,ai,ai,ai] rfl (by kernel_rfl) (by kernel_rfl) ?_
      refine zM rfl (zN rfl (zF rfl (mw _ _) (zL rfl (s.ld (k:=5) rfl pT rfl) (zL rfl (s.bZ (k:=6) rfl CR vV) (aA.any rfl rfl rfl rfl (OpR.call rfl rfl rfl rfl (FR (kd:=kd) (tx:=tx) (pv:=pv) (nx:=nx) hT s hX (Sb kQ fS IF Qz DR hd) Ge.ok.lg Ge.ok.dk)) ?_)))))
      rintro v h ⟨rfl,s⟩
      refine zM rfl (zO rfl (oo rfl rfl) (zO rfl (oo rfl rfl) (zA rfl (zA rfl ?_))))
      refine aA.nil ⟨⟨aa,aa,aa,aa,aa,aa,aa,aa,aa,aa,aa,aa⟩,?_⟩
      refine zK 4 rfl ?_
      have s9:=b5.2 ⟨dv,s.ae [5,6]⟩
      have s:=((((s9.ae [7,0,6,0,0,0]).del 9).del 8).del 7).del 6
      by_cases he:(bp ε'.2 kd tx pv nx data c).1.2=0
      ·skip
       refine zh rfl (af rfl rfl aG) (by simp; exact he) ?_
       refine zk 6 rfl (zc rfl (DW hT s) ?_)
       rintro v h ⟨rfl,s⟩
       obtain ⟨nv,s⟩:=dV.1 s
       obtain ⟨vy,rfl⟩:=xJ s (j:=1) rfl
       refine zk 6 rfl (zf rfl (pU _ _) (zl rfl (s.ld (k:=0) rfl mI rfl) (zc rfl (AW hT s) ?_)))
       rintro v h ⟨kb,rfl,s⟩
       refine zc rfl (qH hT (s.ae [0,1]) (by decide) (by omega) iS) ?_
       intro kv h s
       have hl:(bw now).length=now.length:=by rw [bw,(e_ _).length_eq,dF]
       refine zo rfl (aT rfl rfl rfl (s.eY (n:=(bw now).length) (j:=0) rfl (by simp [eT]) (by decide) cM)) ?_
       refine zk 2 rfl (WP.block ?_)
       obtain ⟨aaA,es,clock,O5,hb,vb,s⟩:=ej.1 (s.ae [2])
       injection O5 with O5
       subst O5
       obtain ⟨dv,s⟩:=b5.1 (s.ae [5])
       have s:=s.ae [6,2,2,0,3,3,3,1]
       refine Mx (op:=.b7) (dv:=dv) hT (ks:=bw now) (now:=now) (aW:=(bp ε'.2 kd tx pv nx data c).1.1) (by omega) (fun n hn => ?_) wo (bw now).length 0 (ε'.1,(bp ε'.2 kd tx pv nx data c).2) _ _ _ (by omega) ?_ ?_ s ⟨rfl,rfl,rfl,rfl,rfl,rfl,aa⟩ (fun e lN E' h' hp wK l4 l5 s' => ?_) (fun lN E' h' hp jl s' => ?_)
       ·have:n∈now.map (·.1):=(e_ _).mem_iff.1 hn
        cases hq:lookL n now with
        | some _=>rfl
        | none=>exact absurd this (kC.1 hq)
       ·exact ⟨⟨Ge.ok.pl,UN.1,UN.2.1⟩,Ge.pins,Ge.full⟩
       ·have e1:cr (ε'.1,(bp ε'.2 kd tx pv nx data c).2)=cr ε':=by simp only [cr,UN.2.2.2.2.2.1]
        rw [e1,hl]; omega
       ·rw [eP] at hp
        have e4:look E' 4=some (.int .u64 ((0:Nat):Int)):=l4
        refine ⟨aa,_,O0 e4 l5,0,e,true,lN,?_,rfl,?_⟩
        ·have:=yl.put (data:=data) c ε' e lN hq J I sF hc he hp
         rwa [ah wK] at this
        ·have s3:=b5.2 ⟨dv,s'.ae [3,6]⟩
         have s4:=ej.2 ⟨vy,es,clock,rfl,hb,vb,s3.ae [2,2]⟩
         exact dV.2 ⟨.map vy,(s4.ae [2,0,0,0,0,0,1]).del 7⟩
       ·rw [eP] at hp
        have s:=s'
        refine WP.has jl (zK 6 rfl (WP.ret ⟨aa,_,rfl,?_⟩))
        refine ⟨_,0,true,lN,?_,rfl,?_⟩
        ·have:=yl.put (data:=data) c ε' 0 lN hq J I sF hc he hp
         exact this
        ·have s3:=b5.2 ⟨dv,s.ae [3,6]⟩
         have s4:=ej.2 ⟨vy,es,clock,rfl,hb,vb,s3.ae [2,2]⟩
         dsimp only [bringA,getA,bf] at s4
         exact dV.2 ⟨.map vy,(s4.ae [2,0,0,0,0,0,1]).del 7⟩
      ·skip
       refine zt rfl (af rfl rfl aG) (by simp; exact he) ?_
       exact zk 8 rfl (WP.ret ⟨aa,_,rfl,0,_,false,_,.app c ε' hq J I sF hc he,rfl,s⟩)
end
end Go.Proofs.YtefepnnfphdkpaaGreat.Am
