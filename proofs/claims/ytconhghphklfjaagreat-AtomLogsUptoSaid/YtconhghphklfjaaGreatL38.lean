/- After a crash the log has the records of the groups that are there and no others, with their numbers and data; the conditions are those of the given statement, for arguments that a machine can hold. Part 38 of 54. -/
import Derived.Test.YtconhghphklfjaaGreatL37
namespace Go.Proofs.YtconhghphklfjaaGreat.Am
open Go
theorem r8 {b:List Nat}{n:Nat}(I:bu b=true): (cj b n).length=512:=by
 have J:=qg (n:=n) (fJ I)
 rw [cj,fO (by rw [cM]; omega),J]
def fU (π:Pl)(n:Int)(b:List Nat)(aD:Nat): Int×Pl :=
 (if (ij π n b aD).1=0 then (unpinF (ij π n b aD).2 n).1 else (ij π n b aD).1,(unpinF (ij π n b aD).2 n).2)
def uC (π:Pl)(n:Int)(i:Nat)(f:Fm)(b:List Nat)(aD:Nat): Pl :=
 { π with ag:=π.ag.set i { f with b:=cj b aD,changed:=true,pins:=0 },cC:=cA n (iZ π n aD,true) π.cC }
theorem vS {π:Pl}{n:Int}{i:Nat}{f:Fm}{b:List Nat}{aD:Nat}(J:lookL n π.aZ=some (i:Int))(I:π.ag[i]?=some f)(U:f.pins=1)(hg:bu b=true): fU π n b aD=(0,uC π n i f b aD):=by
 have h1:=(n_ J I U).1
 have hi:=(List.getElem?_eq_some_iff.1 I).1
 have e1:ij π n b aD=(0,{ π with ag:=π.ag.set i { f with b:=cj b aD,changed:=true },cC:=cA n (iZ π n aD,true) π.cC }):=by
  simp only [ij,h1,I,hg,Bool.true_eq_false,if_false]
 have e2:=(n_ (π:={ π with ag:=π.ag.set i { f with b:=cj b aD,changed:=true },cC:=cA n (iZ π n aD,true) π.cC }) (n:=n) (f:={ f with b:=cj b aD,changed:=true }) J (List.getElem?_set_self hi) U).2
 simp only [fU,e1,e2,if_true,List.set_set]
 rfl
theorem GL {π:Pl}{n:Int}{i:Nat}{f:Fm}{b:List Nat}{aD:Nat}(J:lookL n π.aZ=some (i:Int))(I:π.ag[i]?=some f)(U:f.pins=1)(hg:bu b=false): fU π n b aD=(4,{ π with ag:=π.ag.set i { f with pins:=0 } }):=by
 have h1:=(n_ J I U).1
 have e1:ij π n b aD=(4,π):=by simp only [ij,h1,I,hg,if_true]
 have e2:=(n_ J I U).2
 simp only [fU,e1,e2]
 rfl
theorem LH {π:Pl}{n:Int}{b:List Nat}{aD:Nat}(h:π.Ok): (ij π n b aD).2.Ok:=by
 unfold ij
 split
 ·exact h
 ·split
  ·exact h
  ·rename_i f J
   have hm:=List.mem_of_getElem? J
   split
   ·exact h
   ·rename_i I
    have I:bu b=true:=by simpa using I
    exact h.set h.aZ (by simp only [r8 I]; omega) (h.pins f hm)
theorem dV.put {ε ε':aM}{n:Int}{b0 b:List Nat}{aD:Nat}(hr:dV ε n 0 b0 ε')(h:ga ε): ga ((fU ε'.1 n b aD).2,ε'.2)∧Am.b8 ((fU ε'.1 n b aD).2,ε'.2)≤Am.b8 ε+1∧(bu b=true→(fU ε'.1 n b aD).1=0):=by
 have I:=hr.ok h.ok h.pins
 have J:=(hr.full h.ok.dk h.full).1
 obtain ⟨i,f,h1,h2,h3,h4,h5⟩:=hr.at h.pins
 have hm:=List.mem_of_getElem? h2
 have U:=hr.b8
 cases hg:bu b with
 | true =>
  rw [vS h1 h2 h3 hg]
  refine ⟨⟨⟨I.pl.set I.pl.aZ (by simp only [r8 hg]; omega) (by simp),I.lg,I.dk⟩,h5 _ rfl,J.set h2 rfl fun _=>r8 hg⟩,?_,fun _=>rfl⟩
  have h6:=ja (g:={ f with b:=cj b aD,changed:=true,pins:=0 }) h2
  simp only [Bool.toNat_true] at h6
  simp only [Am.b8,uC] at U ⊢
  omega
 | false =>
  rw [GL h1 h2 h3 hg]
  refine ⟨⟨⟨I.pl.set I.pl.aZ (I.pl.len f hm) (by simp),I.lg,I.dk⟩,h5 _ rfl,J.set h2 rfl fun hl=>hl⟩,?_,fun h=>by cases h⟩
  have h6:=ja (g:={ f with pins:=0 }) h2
  simp only [Am.b8] at U h6 ⊢
  omega
inductive mB (now:List (Int×List Nat))(aD:Nat): List Int→aM→Int→aM→Prop where
 | nil (ε:aM):mB now aD [] ε 0 ε
 | gS (n:Int) (l:List Int) (ε:aM) (e:Int) (b:List Nat) (ε':aM) (hr:dV ε n e b ε') (he:e≠0):mB now aD (n::l) ε e ε'
 | bad (n:Int) (l:List Int) (ε:aM) (b0 b:List Nat) (ε':aM) (hr:dV ε n 0 b0 ε') (hb:lookL n now=some b) (he:(fU ε'.1 n b aD).1≠0):mB now aD (n::l) ε (fU ε'.1 n b aD).1 ((fU ε'.1 n b aD).2,ε'.2)
 | put (n:Int) (l:List Int) (ε:aM) (b0 b:List Nat) (ε':aM) (e:Int) (mA:aM) (hr:dV ε n 0 b0 ε') (hb:lookL n now=some b) (he:(fU ε'.1 n b aD).1=0) (ht:mB now aD l ((fU ε'.1 n b aD).2,ε'.2) e mA):mB now aD (n::l) ε e mA
theorem mB.kL {now:List (Int×List Nat)}{aD:Nat}{l:List Int}{ε ε':aM}{e:Int}(I:mB now aD l ε e ε')(h:ga ε): ga ε':=by
 induction I with
 | nil ε=>exact h
 | gS n l ε e b ε' I he=>exact ⟨I.ok h.ok h.pins,I.C1 he h.pins,(I.full h.ok.dk h.full).1⟩
 | bad n l ε U b ε' I hb he=>exact (I.put h).1
 | put n l ε U b ε' e J I hb he ht ih=>exact ih (I.put h).1
theorem mB.b8 {now:List (Int×List Nat)}{aD:Nat}{l:List Int}{ε ε':aM}{e:Int}(I:mB now aD l ε e ε')(h:ga ε): Am.b8 ε'≤Am.b8 ε+l.length:=by
 induction I with
 | nil ε=>exact Nat.le_refl _
 | gS n l ε e b ε' I he=>have:=I.b8; omega
 | bad n l ε U b ε' I hb he=>have:=(I.put (b:=b) (aD:=aD) h).2.1; simp only [List.length_cons]; omega
 | put n l ε U b ε' e J I hb he ht ih=>have h1:=ih (I.put h).1; have:=(I.put (b:=b) (aD:=aD) h).2.1; simp only [List.length_cons]; omega
theorem Pn {h:H}{id c:Nat}{es:bJ}{n:Int}{u:V}{t kt et:TypeId}{k:IntKind}{z:V}(J:T.get h.tr id=some (.map (es.map eB) c))(he:lookE n es=some u)(hu:Tryz.prog.underlying t=some (.map kt et))(U:Tryz.prog.underlying kt=some (.int k))(hz:zeroT Tryz.prog et=some z):
  cV Tryz.prog h t (.map id) (.int .i64 n) false=some u:=by
 have hi:=kG (n:=n) es 0
 simp only [cV,lookupV,hu,U,hz,J,keyBeq,cE,cond_true,nm]
 cases I:idxE n es 0 with
 | none=>rw [I] at hi; rw [he] at hi; cases hi
 | some q=>rw [I] at hi; rw [he] at hi; obtain ⟨j,w⟩:=q; have:=Option.some.inj hi; simp only at this; subst this; rfl
section
variable {told:Nat→Option (List V→H→Option (V×H))} {h:H} {S:List ah} {X Y:ah} {r k q p bw a g aK:Nat} {op v x u wh di:V} {l b c8 data:List Nat} {now:List (Int×List Nat)} {bq:Bool} {ε:aM}
noncomputable def T2 : Code:=cn [1,1,1,1,1,1,1,1,0,1,0,0] ((Tryz.f17.body).getD .skip)
theorem GM (hT:W told){ks:List Int}{kv dv:V}{aD pG c:Nat}{es:bJ}(QH:ks.length≤65536)(GK:∀n∈ks,(lookL n now).isSome=true)(ko:∀e∈now,e.2.length=512): ∀(j i:Nat) (ε:aM) (h:H) (E:List (Nat×V)) (Q:Ex→List (Nat×V)→H→Prop),i+j=ks.length →
  ga ε→b8 ε+j≤268435456 →
  Sat h (pt g (.cells 3 [.ptr a 0,.map pG,.bool bq] false)::ej pG es c::cX (fun v b=>.bp v b) es now::pt a (.cells 6 (j6 a p q r op dv aK) false)::cB r p q ε.1::bj q p ε.2.1::az p ε.2.2::.arr 1 kv (dO ks)::S) →
  Has E [(0,.ptr g 0),(6,.ptr a 0),(8,.int .u64 (aD:Int)),(73,kv),(74,.int .i64 ks.length),(75,.int .i64 i)] →
  (∀e ε' E' h',mB now aD (ks.drop i) ε e ε'→e≠0→look E' 4=some (.int .u64 0)→look E' 5=some (.int .i64 e)→Sat h' (pt g (.cells 3 [.ptr a 0,.map pG,.bool bq] false)::ej pG es c::cX (fun v b=>.bp v b) es now::pt a (.cells 6 (j6 a p q r op dv aK) false)::cB r p q ε'.1::bj q p ε'.2.1::az p ε'.2.2::S)→Q .ret E' h') →
  (∀ε' E' h',mB now aD (ks.drop i) ε 0 ε'→Has E' [(8,.int .u64 (aD:Int))]→Sat h' (pt g (.cells 3 [.ptr a 0,.map pG,.bool bq] false)::ej pG es c::cX (fun v b=>.bp v b) es now::pt a (.cells 6 (j6 a p q r op dv aK) false)::cB r p q ε'.1::bj q p ε'.2.1::az p ε'.2.2::S)→Q (.exit 1) E' h') →
  WP ⟨Tryz.prog,told⟩ 118 (.loop T2) E h Q:=by
 intro j
 induction j with
 | zero =>
  intro i ε h E Q hj I hw s hE hr hx
  refine WP.loop (WP.has hE (zg rfl (ae.aE rfl rfl rfl (af rfl rfl aX) (by simp <;> omega) ?_)))
  refine zv (zw (zj rfl (WP.exit ?_)))
  rw [List.drop_eq_nil_of_le (by omega)] at hx
  exact hx ε _ _ (.nil ε) ⟨rfl,trivial⟩ (s.del 7)
 | succ j ih =>
  intro i ε h E Q hj I hw s hE hr hx
  have hn:ks[i]?=some (ks[i]'(by omega)):=List.getElem?_eq_getElem _
  have uf:ks[i]'(by omega)∈ks:=List.getElem_mem _
  have ji:ks.drop i=ks[i]'(by omega)::ks.drop (i+1):=List.drop_eq_getElem_cons (by omega)
  generalize (ks[i]'(by omega))=n at hn uf ji
  have hc:(dO ks)[i]?=some (.int .i64 n):=by simp [dO,hn]
  obtain ⟨b,hb⟩:=Option.isSome_iff_exists.1 (GK n uf)
  have yR:=ko _ (fc hb)
  simp only at yR
  rw [ji] at hr hx
  obtain ⟨id,off,e1,e2⟩:=lW (P:=Tryz.prog) s (k:=7) rfl hc Tryz.underlying98 jh
  refine WP.loop (WP.has hE (zg rfl (ae.aR rfl rfl rfl (af rfl rfl aX) (by simp <;> omega) ?_)))
  refine zv (zw (zi rfl (WP.skip (zw (WP.block (zg rfl (zo rfl (cH (r:=.ptr id off) rfl rfl e1) (zl rfl (e2 _ cq) (za rfl (zv (zw (zg rfl (zm rfl (zn rfl (zf rfl (o7 _ _) (zl rfl (by exact s.ld (k:=3) rfl wM rfl) ?_))))))))))))))))
  refine zm rfl (ae.call rfl rfl rfl rfl rfl rfl rfl (Gs (n:=n) hT (s.aa [4,4,4]) I.ok.pl I.pins I.ok.lg I.ok.dk (by have:=ob (ε:=ε); omega)) ?_)
  rintro v h ⟨e,b0,ε',U,(⟨he,rfl,s⟩ | ⟨rfl,u0,rfl,s⟩)⟩
  ·dsimp only [bringA,getA,ai] at s
   refine zm rfl (ze rfl (ze rfl (za rfl (za rfl (zv (zg rfl (zm rfl (ae.aR rfl rfl rfl (af rfl rfl aN) (by simp; exact he) ?_))))))))
   refine zv (zi rfl (zg rfl (zm rfl (za rfl (za rfl (zv (WP.ret (hr e ε' _ _ (.gS n _ ε e b0 ε' U he) he rfl rfl ?_))))))))
   exact (s.aa [3,3,3,3,0,0,0]).del 7
  ·dsimp only [bringA,getA,ai] at s
   have s:=s.drop
   have NQ:=U.put (b:=b) (aD:=aD) I
   have mM:=U.ok I.ok I.pins
   refine zm rfl (ze rfl (ze rfl (za rfl (za rfl (zv (zg rfl (zm rfl (ae.aE rfl rfl rfl (af rfl rfl aN) (rfl) (zv (zj rfl (WP.skip (zw ?_))))))))))))
   have s1:Sat h (cX (fun v b=>.bp v b) es now::_):=s.aa [5]
   obtain ⟨_,_,_,_,q3⟩:=s1.at (k:=0) rfl
   rcases mY (n:=n) q3 with ⟨_,q4⟩ | ⟨u,b',g1,g2,_⟩
   ·rw [hb] at q4; cases q4
   rw [hb] at g2
   have:=Option.some.inj g2
   subst this
   have s2:=(s1.dup (aq.Ad (fun _ _=>aq.bp _ _) _ _)).dY (B:=.bp u b) fun a' b' h'=>by
    rcases mY (n:=n) h' with ⟨_,q4⟩ | ⟨u',P0,QJ,QK,Nt⟩
    ·rw [hb] at q4; cases q4
    ·rw [g1] at QJ; rw [hb] at QK
     have h5:=Option.some.inj QJ
     have h6:=Option.some.inj QK
     subst h5; subst h6
     exact Nt
   dsimp only [bringA,getA,ai] at s2
   obtain ⟨uid,Vw,Vx,rfl⟩:=gX (s2.ax (k:=0) rfl (bN _ _)) (by omega)
   have s:=s2.aa [2,0]
   dsimp only [bringA,getA,ai] at s
   have s0:=s
   refine WP.drawn [none,none,none,none,none,none,none,none,none,none,none,none,none,none] rfl (by kernel_rfl) (by kernel_rfl) ?_
   refine zM rfl (zN rfl (zF rfl (o7 _ _) (zL rfl (by exact s.ld (k:=7) rfl wM rfl) ?_)))
   refine zM rfl (zM rfl (zN rfl (zF rfl (nQ _ _) (zL rfl (by exact s.ld (k:=5) rfl iD rfl) ?_))))
   refine zM rfl (zO rfl (fo rfl rfl (by exact Pn (s.row (k:=6) rfl) g1 Tryz.underlying86 Tryz.underlying3 rI)) ?_)
   refine zM rfl (au.any rfl rfl rfl rfl (OpR.call rfl rfl rfl rfl (Lx (n:=n) (aD:=aD) (b:=b) hT s (bN _ _) mM.pl (by omega))) ?_)
   rintro v h ⟨rfl,s⟩
   refine zA rfl ?_
   refine au.nil ⟨⟨trivial,trivial,trivial,trivial,trivial,trivial,trivial,trivial,trivial,trivial,trivial,trivial,trivial,trivial,trivial⟩,?_⟩
   refine zw (zg rfl (zm rfl (zn rfl (zf rfl (o7 _ _) (zl rfl (by exact s.ld (k:=7) rfl wM rfl) ?_)))))
   refine zm rfl (ae.call rfl rfl rfl rfl rfl rfl rfl (Az (n:=n) hT s (LH mM.pl)) ?_)
   rintro v h ⟨rfl,s⟩
   refine za rfl (zv (zg rfl (zm rfl ?_)))
   by_cases hg:(ij ε'.1 n b aD).1=0
   ·have C3:(fU ε'.1 n b aD).1=(unpinF (ij ε'.1 n b aD).2 n).1:=by simp only [fU,hg,if_true]
    have QL:(fU ε'.1 n b aD).2=(unpinF (ij ε'.1 n b aD).2 n).2:=rfl
    rw [←C3,←QL] at *
    refine ae.aR rfl rfl rfl (af rfl rfl cS) (by simp; exact hg) ?_
    refine zv (zi rfl (zr rfl (zm rfl (za rfl (zv (zg rfl (zm rfl ?_)))))))
    by_cases he:(fU ε'.1 n b aD).1=0
    ·skip
     refine ae.aE rfl rfl rfl (af rfl rfl aN) (by simp; exact he) ?_
     refine zv (zj rfl (WP.skip (zr rfl (zb rfl (by exact bl (aF (by omega) (by omega))) ?_))))
     refine zm rfl (zv ?_)
     have s9:=(s.aa [5,5,2,4,0,1,1,1]).del 8
     dsimp only [bringA,getA,ai] at s9
     refine ih (i+1) ((fU ε'.1 n b aD).2,ε'.2) _ _ Q (by omega) NQ.1 (by have h9:b8 ((fU ε'.1 n b aD).2,ε'.2)≤b8 ε+1:=NQ.2.1; omega) s9 ⟨rfl,rfl,rfl,rfl,rfl,rfl,trivial⟩ (fun e J E' h' ht uY l4 l5 s' => ?_) (fun J E' h' ht fu s' => ?_)
     ·exact hr e J E' h' (.put n _ ε b0 b ε' e J U hb he ht) uY l4 l5 s'
     ·exact hx J E' h' (.put n _ ε b0 b ε' 0 J U hb he ht) fu s'
    ·skip
     refine ae.aR rfl rfl rfl (af rfl rfl aN) (by simp; exact he) ?_
     refine zv (zi rfl (zg rfl (zm rfl (za rfl (za rfl (zv (WP.ret (hr _ _ _ _ (.bad n _ ε b0 b ε' U hb he) he rfl rfl ?_))))))))
     exact ((s.aa [5,5,2,4,0,1,1,1]).del 8).del 7
   ·have C3:(fU ε'.1 n b aD).1=(ij ε'.1 n b aD).1:=by simp only [fU,hg,if_false]
    have QL:(fU ε'.1 n b aD).2=(unpinF (ij ε'.1 n b aD).2 n).2:=rfl
    rw [←C3] at hg
    refine ae.aE rfl rfl rfl (af rfl rfl cS) (by simp; rw [←C3]; exact hg) ?_
    refine zv (zj rfl (WP.skip (zg rfl (zm rfl (ae.aR rfl rfl rfl (af rfl rfl aN) (by simp; rw [←C3]; exact hg) ?_)))))
    refine zv (zi rfl (zg rfl (zm rfl (za rfl (za rfl (zv (WP.ret (hr _ _ _ _ (.bad n _ ε b0 b ε' U hb hg) hg rfl (by rw [C3]; rfl) ?_))))))))
    exact ((s.aa [5,5,2,4,0,1,1,1]).del 8).del 7
end
end Go.Proofs.YtconhghphklfjaaGreat.Am
namespace Go.Proofs.YtconhghphklfjaaGreat.Am
open Go
theorem r6.fit {pg:Int}{c8 now:List Nat}{i:Nat}{l:List bV}(J:r6 pg c8 now i l)(hn:now.length=512)(h0:0≤pg)(h1:pg<65536): ∀c∈l,c.Ok∧c.b.length≤512:=by
 induction J with
 | done i h=>intro c I; cases I
 | skip i l h he J U=>exact U
 | take i e l h2 h3 J U =>
  intro c I
  rcases List.mem_cons.1 I with rfl | I
  ·have hl:((now.take e).drop i).length=e-i:=by simp; omega
   refine ⟨⟨h0,h1,by simp,by simp only; omega,by simp only [hl]; omega,by simp⟩,by simp only [hl]; omega⟩
  ·exact U c I
theorem Km.fit {pg:Int}{c8 now:List Nat}{l:List bV}(U:Km pg c8 now l)(hn:now.length=512)(I:0≤pg)(J:pg<65536): ∀c∈l,c.Ok∧c.b.length≤512:=by
 obtain ⟨m,h2,rfl⟩:=U
 split
 ·intro c hc
  rw [List.mem_singleton.1 hc]
  exact ⟨⟨I,J,by simp,by simp,by simp,by simp⟩,by simp⟩
 ·exact h2.fit hn I J
theorem iu.fit {now:List (Int×List Nat)}{l:List Int}{ε ε':aM}{e:Int}{cs:List bV}(hr:iu now l ε e cs ε')(J:∀x∈now,x.2.length=512)(hl:∀n∈l,0≤n∧n<65536): ∀c∈cs,c.Ok∧c.b.length≤512:=by
 induction hr with
 | nil ε=>intro c hc; cases hc
 | err n l ε e b ε' hr he=>intro c hc; cases hc
 | part n l ε c8 b ε' c e cs mA hr U hd hc nW ht ih =>
  intro x I
  have hn:=hl n List.mem_cons_self
  rcases List.mem_append.1 I with I | I
  ·exact hc.fit (J _ (fc U)) hn.1 hn.2 x I
  ·exact ih (fun m hm=>hl m (List.mem_cons_of_mem _ hm)) x I
 | whole n l ε c8 b ε' e cs mA hr U hd ht ih =>
  intro x I
  have hn:=hl n List.mem_cons_self
  have U:=J _ (fc U)
  rcases List.mem_cons.1 I with rfl | I
  ·exact ⟨⟨hn.1,hn.2,by simp,by simp,by simp only at U ⊢; omega,fun _=>⟨rfl,U⟩⟩,by simp only at U ⊢; omega⟩
  ·exact ih (fun m hm=>hl m (List.mem_cons_of_mem _ hm)) x I
theorem r9 : ∀(f n:Nat),(digits f n).length≤f+1:=by
 intro f
 induction f with
 | zero=>intro n; simp [digits]
 | succ f I =>
  intro n
  unfold digits
  split
  ·simp
  ·have:=I (n/128)
   simp only [List.length_cons]
   omega
theorem NR {c:bV}(I:c.b.length≤512): (jd c).length≤543:=by
 have J:=r9 9 c.aO.toNat
 have U:=r9 9 c.pos.toNat
 have h3:=r9 9 c.b.length
 simp only [jd,List.length_append,List.length_cons,List.length_nil]
 omega
theorem LI : ∀ {l:List bV},(∀c∈l,c.b.length≤512)→(l.flatMap jd).length≤543*l.length:=by
 intro l
 induction l with
 | nil=>intro _; simp
 | cons c l I =>
  intro h
  have U:=NR (h c List.mem_cons_self)
  have h2:=I fun x J=>h x (List.mem_cons_of_mem _ J)
  simp only [List.flatMap_cons,List.length_append,List.length_cons]
  omega
theorem LJ {l:List bV}{tx pv nx:Nat}{data:List Nat}(hl:l.length≤33554432)(h:∀c∈l,c.Ok∧c.b.length≤512)(J:tx<18446744073709551616)(U:pv<18446744073709551616)(xR:nx<18446744073709551616)(hd:data.length≤35184372088832): vI tx pv nx data l:=by
 have h2:=LI fun c I=>(h c I).2
 refine ⟨⟨by omega,fun c I=>by have:=(h c I).2; omega,fun c I => ?_⟩,J,U,xR,by omega⟩
 have:=(h c I).1
 simp only [bV.Ok] at this
 omega
theorem AO {l:List bV}{kd:Int}(I:1≤kd∧kd≤9)(h:∀c∈l,c.Ok∧c.b.length≤512): cx kd l=true:=by
 simp only [cx,Bool.and_eq_true,decide_eq_true_eq,List.all_eq_true]
 exact ⟨I,fun c J=>(h c J).1⟩
inductive pH (ε:aM)(now:List (Int×List Nat))(kd:Int)(tx pv nx:Nat)(data:List Nat)(lM:Nat): Nat→Int→Bool→aM→Prop where
 | arg (h:¬(1≤kd∧kd≤7)∨0<lM):pH ε now kd tx pv nx data lM 0 1 false ε
 | dead (h1:1≤kd) (h2:kd≤7) (h3:lM=0) (h:ε.2.2.dead=true):pH ε now kd tx pv nx data lM 0 9 false ε
 | lK (e:Int) (c:List bV) (ε':aM) (h1:1≤kd) (h2:kd≤7) (h3:lM=0) (h:ε.2.2.dead=false) (hc:iu now (ck now) ε e c ε') (he:e≠0):pH ε now kd tx pv nx data lM 0 e false ε'
 | app (c:List bV) (ε':aM) (h1:1≤kd) (h2:kd≤7) (h3:lM=0) (h:ε.2.2.dead=false) (hc:iu now (ck now) ε 0 c ε') (he:(aS ε'.2 kd tx pv nx data c).1.2≠0):pH ε now kd tx pv nx data lM 0 (aS ε'.2 kd tx pv nx data c).1.2 false (ε'.1,(aS ε'.2 kd tx pv nx data c).2)
 | put (c:List bV) (ε':aM) (e:Int) (mA:aM) (h1:1≤kd) (h2:kd≤7) (h3:lM=0) (h:ε.2.2.dead=false) (hc:iu now (ck now) ε 0 c ε') (ha:(aS ε'.2 kd tx pv nx data c).1.2=0) (hp:mB now (aS ε'.2 kd tx pv nx data c).1.1 (ck now) (ε'.1,(aS ε'.2 kd tx pv nx data c).2) e mA) :
   pH ε now kd tx pv nx data lM (if e=0 then (aS ε'.2 kd tx pv nx data c).1.1 else 0) e true mA
end Go.Proofs.YtconhghphklfjaaGreat.Am
namespace Go.Proofs.YtconhghphklfjaaGreat.Am
open Go
structure oF (ε ε':aM): Prop where
 base:ε'.2.1.base=ε.2.1.base
 b:ε'.2.1.b=ε.2.1.b
 bE:ε'.2.1.bE=ε.2.1.bE
 check:ε'.2.1.check=ε.2.1.check
 log:ε'.2.2.log=ε.2.2.log
 room:ε'.2.2.room=ε.2.2.room
 aj:ε'.2.2.aj=ε.2.2.aj
theorem oF.refl (ε:aM): oF ε ε:=⟨rfl,rfl,rfl,rfl,rfl,rfl,rfl⟩
theorem oF.trans {a b c:aM}(x:oF a b)(y:oF b c): oF a c :=
 ⟨y.base.trans x.base,y.b.trans x.b,y.bE.trans x.bE,y.check.trans x.check,y.log.trans x.log,y.room.trans x.room,y.aj.trans x.aj⟩
theorem jK {δ:Dk}: δ.ct.2.log=δ.log∧δ.ct.2.room=δ.room∧δ.ct.2.aj=δ.aj:=by
 unfold Dk.ct
 split
 ·exact ⟨rfl,rfl,rfl⟩
 ·split <;> exact ⟨rfl,rfl,rfl⟩
theorem qp {δ:Dk}{n:Int}{b:List Nat}: (δ.bF n b).2.log=δ.log∧(δ.bF n b).2.room=δ.room∧(δ.bF n b).2.aj=δ.aj:=by
 unfold Dk.bF
 split
 ·exact ⟨rfl,rfl,rfl⟩
 ·split
  ·exact ⟨rfl,rfl,rfl⟩
  ·split <;> exact ⟨rfl,rfl,rfl⟩
theorem AP {π:Pl}{x:LD}{n:Nat}: oF (π,x) (π,(bD x n).2):=by
 unfold bD
 split
 ·exact oF.refl _
 ·split
  ·exact ⟨rfl,rfl,rfl,rfl,jK.1,jK.2.1,jK.2.2⟩
  ·exact ⟨rfl,rfl,rfl,rfl,jK.1,jK.2.1,jK.2.2⟩
theorem oF.to {π:Pl}{ε ε':aM}(h:oF ε ε'): oF ε (π,ε'.2):=⟨h.base,h.b,h.bE,h.check,h.log,h.room,h.aj⟩
structure gA (R:LD→Prop): Prop where
 force:∀(x:LD) (n:Nat),R x→R (bD x n).2
 write:∀(x:LD) (n:Int) (b:List Nat),R x→R (x.1,(x.2.bF n b).2)
section
variable {R:LD→Prop} {ε ε':aM} {n e:Int} {b:List Nat} {now eY:List (Int×List Nat)} {bq:Bool} {l:List Int} {cs:List bV} {aD:Nat}
theorem gA.out (h:gA R){ε:aM}{i:Nat}(I:R ε.2): R (outF ε i).2.2:=by
 unfold outF
 split
 ·exact I
 ·split
  ·exact I
  ·split
   ·exact I
   ·split
    ·exact h.force _ _ I
    ·split
     ·exact h.write _ _ _ (h.force _ _ I)
     ·exact h.write _ _ _ (h.force _ _ I)
theorem gA.gS (h:gA R)(U:dV ε n e b ε')(J:R ε.2): R ε'.2:=by
 cases U with
 | arg hn=>exact J
 | xV i f h1 h2 hl hf=>exact J
 | out I i f h1 h2 hl hn hf hh he=>exact h.out (ε:=(I,ε.2)) J
 | read I i f h1 h2 hl hn hf hh he U=>exact h.out (ε:=(I,ε.2)) J
 | bad I i f h1 h2 hl hn hf hh he U hc=>exact h.out (ε:=(I,ε.2)) J
 | load I i f h1 h2 hl hn hf hh he U hc=>exact h.out (ε:=(I,ε.2)) J
theorem gA.rd (h:gA R)(I:kK ε n e b ε')(J:R ε.2): R ε'.2:=by
 cases I with
 | dead U=>exact J
 | gS e b ε' U I he=>exact h.gS I J
 | oB b ε' U I he=>exact h.gS (ε':=ε') I J
 | read b ε' U I he=>exact h.gS (ε':=ε') I J
theorem gA.AQ (h:gA R)(J:kM ε now bq n e b ε')(I:R ε.2): R ε'.2:=by
 cases J with
 | arg hn=>exact I
 | bq _ _ _=>exact I
 | own b U h2 _ hl=>exact I
 | read e b ε' U h2 _ hl J=>exact h.rd J I
theorem gA.Ko (h:gA R)(I:oE ε now bq n b e eY ε')(J:R ε.2): R ε'.2:=by
 cases I with
 | may e c ε' I he=>exact h.AQ I J
 | bad c ε' I U=>exact h.AQ I J
 | done c ε' I U=>exact h.AQ I J
theorem gA.ch (h:gA R)(I:iu now l ε e cs ε'): R ε.2→R ε'.2:=by
 induction I with
 | nil ε=>exact fun J=>J
 | err n l ε e b ε' I he=>exact h.rd I
 | part n l ε c8 b ε' c e cs U I hb hd hc nW ht ih=>exact fun J=>ih (h.rd I J)
 | whole n l ε c8 b ε' e cs U I hb hd ht ih=>exact fun J=>ih (h.rd I J)
theorem gA.pt (h:gA R)(I:mB now aD l ε e ε'): R ε.2→R ε'.2:=by
 induction I with
 | nil ε=>exact fun J=>J
 | gS n l ε e b ε' I he=>exact h.gS I
 | bad n l ε b0 b ε' I hb he=>exact h.gS (ε':=ε') I
 | put n l ε b0 b ε' e U I hb he ht ih=>exact fun J=>ih (h.gS (ε':=ε') I J)
theorem GN (ε:aM): gA fun y=>oF ε (ε.1,y) :=
 ⟨fun _ _ h=>h.trans AP,fun _ _ _ h=>h.trans ⟨rfl,rfl,rfl,rfl,qp.1,qp.2.1,qp.2.2⟩⟩
theorem iu.same (I:iu now l ε e cs ε'): oF ε ε':=((GN ε).ch I (oF.refl ε)).to
end
theorem I0 {m:Nat}: ∀ {l:List Nat},l.Pairwise (· < ·)→(∀s∈l,s<m)→l.length≤m:=by
 intro l I J
 have key:∀(l:List Nat) (k:Nat),l.Pairwise (· < ·)→(∀s∈l,k≤s∧s<m)→k+l.length≤m∨l=[]:=by
  intro l
  induction l with
  | nil=>intro k _ _; exact .inr rfl
  | cons x l U =>
   intro k I J
   simp only [List.pairwise_cons] at I
   have hx:=J x List.mem_cons_self
   rcases U (x+1) I.2 (fun s hs=>⟨I.1 s hs,(J s (List.mem_cons_of_mem _ hs)).2⟩) with h | rfl
   ·left; simp only [List.length_cons]; omega
   ·left; simp; omega
 rcases key l 0 I (fun s hs=>⟨Nat.zero_le _,J s hs⟩) with h | rfl
 ·omega
 ·simp
theorem jL (x:LD)(kd:Int)(tx pv nx:Nat)(data:List Nat)(c:List bV):
  (∃e:Int,e≠0∧((e=1∧cx kd c=false)∨(e=2∧1048576<(cy kd tx pv nx data c).length)∨(e=9∧x.2.dead=true)∨(e=7∧x.2.room<x.2.log.length+(cK x.1 kd tx pv nx data c).length))∧aS x kd tx pv nx data c=((0,e),x)) ∨
  (x.2.dead=false∧x.2.aJ=0∧aS x kd tx pv nx data c=((0,9),(x.1,{ x.2.die with tail:=cK x.1 kd tx pv nx data c }))) ∨
  (cx kd c=true∧(cy kd tx pv nx data c).length≤1048576∧x.2.dead=false∧x.2.log.length+(cK x.1 kd tx pv nx data c).length≤x.2.room∧x.2.aJ≠0 ∧
   aS x kd tx pv nx data c=((x.1.base+x.1.b.length,0),(x.1.app (cK x.1 kd tx pv nx data c),{ x.2.cO with log:=x.2.log++cK x.1 kd tx pv nx data c }))):=by
 by_cases I:cx kd c=false
 ·exact .inl ⟨1,by decide,.inl ⟨rfl,I⟩,by rw [aS,if_pos I]⟩
 ·by_cases U:1048576<(cy kd tx pv nx data c).length
  ·exact .inl ⟨2,by decide,.inr (.inl ⟨rfl,U⟩),by rw [aS,if_neg I,if_pos U]⟩
  ·by_cases J:x.2.dead=true
   ·have e:x.2.gK (cK x.1 kd tx pv nx data c)=(9,x.2):=by rw [Dk.gK,if_pos J]
    exact .inl ⟨9,by decide,.inr (.inr (.inl ⟨rfl,J⟩)),by rw [aS,if_neg I,if_neg U,e,if_pos (by simp)]⟩
   ·by_cases hr:x.2.room<x.2.log.length+(cK x.1 kd tx pv nx data c).length
    ·have e:x.2.gK (cK x.1 kd tx pv nx data c)=(7,x.2):=by rw [Dk.gK,if_neg J,if_pos hr]
     exact .inl ⟨7,by decide,.inr (.inr (.inr ⟨rfl,hr⟩)),by rw [aS,if_neg I,if_neg U,e,if_pos (by simp)]⟩
    ·by_cases hf:x.2.aJ=0
     ·have e:x.2.gK (cK x.1 kd tx pv nx data c)=(9,{ x.2.die with tail:=cK x.1 kd tx pv nx data c }):=by rw [Dk.gK,if_neg J,if_neg hr,if_pos hf]
      exact .inr (.inl ⟨by simpa using J,hf,by rw [aS,if_neg I,if_neg U,e,if_pos (by simp)]⟩)
     ·have e:x.2.gK (cK x.1 kd tx pv nx data c)=(0,{ x.2.cO with log:=x.2.log++cK x.1 kd tx pv nx data c }):=by rw [Dk.gK,if_neg J,if_neg hr,if_neg hf]
      exact .inr (.inr ⟨by simpa using I,by omega,by simpa using J,by omega,hf,by rw [aS,if_neg I,if_neg U,e,if_neg (by simp)]⟩)
theorem tW {x:LD}{kd:Int}{tx pv nx:Nat}{data:List Nat}{c:List bV}(J:x.1.Ok)(I:x.2.Ok)(hs:x.1.b=x.2.log)(hz:x.1.base+x.1.b.length+1048584≤1099511627776):
  (aS x kd tx pv nx data c).2.1.Ok∧(aS x kd tx pv nx data c).2.2.Ok∧(aS x kd tx pv nx data c).2.1.b=(aS x kd tx pv nx data c).2.2.log∧(aS x kd tx pv nx data c).2.1.base=x.1.base∧(aS x kd tx pv nx data c).2.1.b.length≤x.1.b.length+1048584 ∧
  (aS x kd tx pv nx data c).2.2.waiting=x.2.waiting∧(aS x kd tx pv nx data c).1.1<1099511627776:=by
 have hlen:(cK x.1 kd tx pv nx data c).length=8+(cy kd tx pv nx data c).length:=nY _ _
 rcases jL x kd tx pv nx data c with ⟨e,_,_,h⟩ | ⟨hd,hf,h⟩ | ⟨hg,hb,hd,U,hf,h⟩
 ·rw [h]; exact ⟨J,I,hs,rfl,Nat.le_add_right _ _,rfl,by simp⟩
 ·rw [h]; exact ⟨J,⟨I.aJ,I.len,I.room,I.now,I.aj,I.aT,I.many⟩,hs,rfl,Nat.le_add_right _ _,rfl,by simp⟩
 ·rw [h]
  generalize cK x.1 kd tx pv nx data c=rc at hlen U
  have T3:=I.room
  have iU:x.1.b.length=x.2.log.length:=by rw [hs]
  have hl:(x.1.b++rc).length=x.1.b.length+rc.length:=List.length_append
  have iq:(x.2.log++rc).length=x.2.log.length+rc.length:=List.length_append
  refine ⟨⟨?_,?_,?_,?_,?_,?_,J.check⟩,⟨I.cO.aJ,?_,I.room,I.now,I.aj,?_,I.many⟩,?_,rfl,?_,rfl,?_⟩
  ·show x.1.base+(x.1.b++rc).length≤_; omega
  ·have h1:=I0 J.wW J.low
   show (x.1.bE++[x.1.b.length]).length≤_
   simp only [List.length_append,List.length_cons,List.length_nil]; omega
  ·intro s hm
   show s<(x.1.b++rc).length
   rcases List.mem_append.1 (show s∈x.1.bE++[x.1.b.length] from hm) with hm | hm
   ·have:=J.low s hm; omega
   ·rw [List.mem_singleton.1 hm]; omega
  ·show (x.1.bE++[x.1.b.length]).Pairwise (·< ·)
   rw [List.pairwise_append]
   refine ⟨J.wW,List.pairwise_singleton _ _,fun a ha b hb => ?_⟩
   rw [List.mem_singleton.1 hb]
   exact J.low a ha
  ·have:=J.forced
   show x.1.forced≤(x.1.b++rc).length; omega
  ·show (x.1.b++rc).length≤_; omega
  ·show (x.2.log++rc).length≤_; omega
  ·have:=I.aT
   show x.2.aT≤(x.2.log++rc).length; omega
  ·show x.1.b++rc=x.2.log++rc; rw [hs]
  ·show (x.1.b++rc).length≤_; omega
  ·show x.1.base+x.1.b.length<_; omega
end Go.Proofs.YtconhghphklfjaaGreat.Am
