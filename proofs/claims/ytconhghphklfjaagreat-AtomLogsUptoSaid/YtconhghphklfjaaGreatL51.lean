/- After a crash the log has the records of the groups that are there and no others, with their numbers and data; the conditions are those of the given statement, for arguments that a machine can hold. Part 51 of 54. -/
import Derived.Test.YtconhghphklfjaaGreatL50
namespace Go.Proofs.YtconhghphklfjaaGreat.Am
open Go
def Sg (base aK:Nat)(rs:List b9)(data:List Nat)(bA cU:List b9): Prop :=
 rs=bA++cU∧((aK=0∧data=[]∧bA=[])∨∃A rc B,rs=A++rc::B∧aK=base+szB A∧aK≠0∧rc.kd=8∧8≤rc.data.length∧data=rc.data.drop 8∧max base (leN (rc.data.take 8))=base+szB bA)
def kg (δ:Dk)(base:Nat)(rs bA cU:List b9): Int×Dk :=
 if (δ.dw (szB rs)).1≠0 then δ.dw (szB rs) else jA (redoL (base+szB bA) cU fL.none) (δ.dw (szB rs)).2
theorem Ce {δ:Dk}{n:Nat}: (δ.dR n).2.waiting=δ.waiting∧(δ.dR n).2.now=δ.now∧(δ.dR n).2.aj=δ.aj:=by
 unfold Dk.dR Dk.oJ
 split
 ·split
  ·exact ⟨rfl,rfl,rfl⟩
  ·split
   ·exact ⟨rfl,rfl,rfl⟩
   ·split <;> exact ⟨rfl,rfl,rfl⟩
 ·exact ⟨rfl,rfl,rfl⟩
theorem Cf {δ:Dk}: δ.ct.2.waiting=δ.waiting∧δ.ct.2.now=δ.now∧δ.ct.2.aj=δ.aj:=by
 unfold Dk.ct
 split
 ·exact ⟨rfl,rfl,rfl⟩
 ·split <;> exact ⟨rfl,rfl,rfl⟩
theorem EB {δ:Dk}{n:Nat}: (δ.dw n).2.waiting=δ.waiting∧(δ.dw n).2.now=δ.now∧(δ.dw n).2.aj=δ.aj:=by
 unfold Dk.dw
 have h:=Ce (δ:=δ) (n:=n)
 split
 ·exact h
 ·split
  ·have I:=Cf (δ:=(δ.dR n).2)
   exact ⟨I.1.trans h.1,I.2.1.trans h.2.1,I.2.2.trans h.2.2⟩
  ·exact h
theorem kr.dw {δ:Dk}{m n:Nat}(h:kr δ m): kr (δ.dw n).2 m:=by
 obtain ⟨I,J,U⟩:=EB (δ:=δ) (n:=n)
 exact ⟨h.ok.dw,by rw [I]; exact h.wait,by rw [J,U]; exact h.now⟩
section
variable {told:Nat→Option (List V→H→Option (V×H))} {h:H} {S:List ah} {data j:List Nat} {p base aK:Nat} {δ:Dk}
noncomputable def UJ : Code:=cn [1,1,1,1,1,1,1,1,1] ((Tryz.f21.body).getD .skip)
theorem ym (hT:W4 told){a q r n:Nat}{rs bA cU:List b9}(he:rs=bA++cU)(U:∀r∈rs,r.Ok)(tq:(fy base aK rs).Ok)(qO:kr δ 65536){c0:Nat}
 (s:Sat h (cz a p q r .bI data c0::cB r p q (Pl.fresh n)::bj q p (fy base aK rs)::az p δ::S)){E:List (Nat×V)}{Q:Ex→List (Nat×V)→H→Prop}(hE:Has E [(9,.ptr a 0),(10,.int .u64 ((base+szB bA:Nat):Int))])
 {y:Int×Dk}(hy:jA (redoL (base+szB bA) cU fL.none) δ=y)
 (h1:∀I h',y.1≠0→look I 4=some .bI→look I 5=some (.int .i64 y.1)→Sat h' (az p y.2::S)→Q .ret I h')
 (h2:∀I h',y.1=0→look I 4=some (.ptr a 0)→look I 5=some (.int .i64 0)→Sat h' (cz a p q r .bI data c0::cB r p q (Pl.fresh n)::bj q p (fy base aK rs)::az p y.2::S)→Q .ret I h'): WP ⟨Tryz.prog,told⟩ 95 UJ E h Q:=by
 refine WP.has hE (zw (zg rfl (zm rfl (zm rfl (ae.call rfl rfl rfl rfl rfl rfl rfl (Jm hT he U tq qO (s.aa [0,1,1])) ?_)))))
 rintro v h ⟨rfl,s⟩
 rw [hy] at s
 rw [hy]
 dsimp only [ai,bringA] at s
 by_cases J:y.1=0
 ·skip
  rw [J]
  refine za rfl (zv (zg rfl (zm rfl (ae.aE rfl rfl rfl (af rfl rfl aN) (rfl) (zv (zj rfl (WP.skip (zg rfl (zm rfl (za rfl (za rfl (zv (WP.ret ?_)))))))))))))
  exact h2 _ _ J rfl rfl (s.aa [0,2,0,0])
 ·skip
  refine za rfl (zv (zg rfl (zm rfl (ae.aR rfl rfl rfl (af rfl rfl aN) (by simpa using J) ?_))))
  refine zv (zi rfl (zg rfl (zm rfl (za rfl (za rfl (zv (WP.ret ?_)))))))
  exact h1 _ _ J rfl rfl (((s.aa [2]).del 1 |>.del 1).del 1)
theorem Sh {P:Program}{h:H}{J:Array TypeId}{k:IntKind}{a b:Int}: builtinV P h .max J [.int k a,.int k b]=some (.int k (max a b),h):=by
 simp only [builtinV,foldV,maxV,cE,cond_true,Option.map_some]
 by_cases I:a<b
 ·simp only [I,decide_true,cond_true]
  rw [show max a b=b by omega]
 ·simp only [I,decide_false,cond_false]
  rw [show max a b=a by omega]
theorem Jn (hT:W4 told){n:Nat}{rs bA cU:List b9}(tU:1≤n)(Q2:n≤1024)(s:Sat h (az p δ::S))(U:kr δ 65536)(hd:δ.dead=false)(hm:G7 δ.mark base aK)(qb:base+δ.log.length≤1099511627776)(Oj:aK≤1099511627776)
 (Ef:δ.log=logB base rs++j)(J:∀r∈rs,r.Ok)(hj:uF j)(Ol:Sg base aK rs data bA cU):
  Call ⟨Tryz.prog,told⟩ 21 [.ptr p 0,.int .i64 (n:Int)] h fun v h' =>
   ((kg δ base rs bA cU).1≠0∧v=.aW [.bI,.int .i64 (kg δ base rs bA cU).1]∧Sat h' (az p (kg δ base rs bA cU).2::S)) ∨
   ((kg δ base rs bA cU).1=0∧∃a q r,v=.aW [.ptr a 0,.int .i64 0]∧Sat h' (cz a p q r .bI data aK::cB r p q (Pl.fresh n)::bj q p (fy base aK rs)::az p (kg δ base rs bA cU).2::S)):=by
 have hW:=hT.w.w.w
 have hlen:=U.ok.len
 have iq:δ.log.length=szB rs+j.length:=by rw [Ef,List.length_append,gT]
 have tq:(fy base aK rs).Ok:=C9 (by omega) (by omega) Oj
 obtain ⟨Om,Ol⟩:=Ol
 generalize hy:kg δ base rs bA cU=y
 unfold kg at hy
 refine Call.of_wp (hW.free _ rfl) Tryz.func21 rfl rfl (zg rfl (za rfl (za rfl (zv (zw (zg rfl (zm rfl (ae.aE rfl rfl rfl (af rfl rfl aX) (by simp <;> omega) ?_))))))))
 refine zm rfl (zm rfl (ae.aE rfl rfl rfl (af rfl rfl dS) (by simp <;> omega) ?_))
 refine zp rfl (zv (zj rfl (WP.skip (zg rfl (zm rfl (ae.call rfl rfl rfl rfl rfl rfl rfl (Ji hT.wr s U.ok hd hm qb (by omega) Ef J hj) ?_))))))
 rw [gT]
 rintro v h (⟨I,rfl,s⟩ | ⟨I,q,rfl,s⟩)
 ·skip
  rw [if_pos I] at hy
  rw [hy] at I s
  rw [hy]
  refine zm rfl (ze rfl (ze rfl (za rfl (za rfl (zv (zw (zg rfl (zm rfl (ae.aR rfl rfl rfl (af rfl rfl aN) (by simpa using I) ?_)))))))))
  refine zv (zi rfl (zg rfl (zm rfl (za rfl (za rfl (zv ?_))))))
  refine WP.ret ⟨trivial,_,rfl,?_⟩
  exact .inl ⟨I,rfl,s⟩
 rw [if_neg (not_not_intro I)] at hy
 refine zm rfl (ze rfl (ze rfl (za rfl (za rfl (zv (zw (zg rfl (zm rfl (ae.aE rfl rfl rfl (af rfl rfl aN) (rfl) (zv (zj rfl (WP.skip (zg rfl (zm rfl (zm rfl (zm rfl (ae.call rfl rfl rfl rfl rfl rfl rfl (C0 (p:=p) (q:=q) (n:=n) hW s) ?_)))))))))))))))))
 rintro v h (⟨hn,_,_⟩ | ⟨_,_,r,rfl,s⟩)
 ·omega
 rw [Int.toNat_natCast] at s
 refine zm rfl (ze rfl (ze rfl (za rfl (za rfl (zv (zw (zg rfl (zm rfl (ae.aE rfl rfl rfl (af rfl rfl aN) (rfl) (zv (zj rfl (WP.skip (zg rfl (zm rfl (zm rfl (zm rfl (zo rfl (bW rfl (by rw [No]; rfl)) ?_)))))))))))))))))
 refine ae.bO s rfl rfl rfl (ff rfl rfl) (fun T5 h s => ?_)
 dsimp only [V.cells,List.take,List.length_cons,List.length_nil,Nat.reduceAdd,List.drop,List.cons_append,List.nil_append] at s
 refine za rfl (zv (zg rfl (zm rfl (ae.call rfl rfl rfl rfl rfl rfl rfl (rU hW (s.aa [2])) ?_))))
 rintro v h' ⟨rfl,rfl⟩
 refine za rfl (zv (zw (zg rfl (zm rfl (ae.call rfl rfl rfl rfl rfl rfl rfl (tR hW (s.aa [2])) ?_)))))
 rintro v h' ⟨rfl,rfl⟩
 rcases Ol with ⟨rfl,rfl,rfl⟩ | ⟨A,rc,B,hA,UK,Kw,yn,h8,rfl,fK⟩
 ·skip
  refine za rfl (zv (zg rfl (zm rfl (ae.aE rfl rfl rfl (af rfl rfl aN) (rfl) (zv (zj rfl (WP.skip ?_)))))))
  have s1:=bQ.2 ⟨.aH,(s.mh).aa [1,0]⟩
  dsimp only [ai,bringA] at s1
  exact ym hT Om J tq U.dw s1 ⟨rfl,rfl,trivial⟩ hy (fun E' h' I e1 e2 s'=>⟨trivial,_,oR e1 e2,.inl ⟨I,rfl,s'⟩⟩) (fun E' h' I e1 e2 s'=>⟨trivial,_,oR e1 e2,.inr ⟨I,_,_,_,rfl,s'⟩⟩)
 ·skip
  subst hA
  subst UK
  have ep:¬(((fy base (base+szB A) (A++rc::B)).check:Nat):Int)=0:=by show ¬((base+szB A:Nat):Int)=0; omega
  refine za rfl (zv (zg rfl (zm rfl (ae.aR rfl rfl rfl (af rfl rfl aN) (by simpa using ep) ?_))))
  refine zv (zi rfl (zg rfl (zm rfl (zm rfl (ae.call rfl rfl rfl rfl rfl rfl rfl (uH (bA:=A) (cU:=B) (r:=rc) hT.wr tq (J rc (by simp)) (s.aa [2])) ?_)))))
  rintro v h ⟨dt,ch,cs,rfl,s⟩
  dsimp only [ai,bringA] at s
  have lz:=(s.buf (k:=1) rfl).view.cells
  have j5:=s.gx (j:=2) rfl
  have Si:[V.int .i64 (rc.kd:Int),V.int .u64 (rc.tx:Int),V.int .u64 (rc.pv:Int),V.int .u64 (rc.nx:Int),dt,ch].all storable=true:=h_ lz.2 j5.2.1
  refine zm rfl (ze rfl (ze rfl (ze rfl ?_)))
  refine ae.bO s rfl rfl rfl (bK jP) (fun NC h s => ?_)
  dsimp only [V.cells,List.length_cons,List.length_nil,Nat.reduceAdd] at s
  refine ae.bn rfl rfl rfl rfl rfl (s.eN (j:=0) rfl dK rfl Si) ?_
  rintro h s
  dsimp only [setA] at s
  refine za rfl (za rfl (zv (zg rfl (zm rfl (ae.aR rfl rfl rfl (af rfl rfl cS) (rfl) (zm rfl (zf rfl (jX _ _) (zl rfl (by exact s.ld (k:=0) rfl cq rfl) ?_))))))))
  refine ae.aR rfl rfl rfl (af rfl rfl cS) (by rw [yn]; rfl) ?_
  refine zq rfl (zm rfl (zf rfl (nO _ _) (zl rfl (by exact s.ld (k:=0) rfl bg rfl) ?_)))
  refine zo rfl (aL rfl rfl rfl (by exact aG Tryz.underlying32 (s.ax (k:=2) rfl (bk _ _)))) ?_
  refine ae.aR rfl rfl rfl (af rfl rfl kZ) (by simp; omega) ?_
  refine zq rfl (zv (zi rfl (zg rfl (zm rfl (zm rfl (zf rfl (nO _ _) (zl rfl (by exact s.ld (k:=0) rfl bg rfl) ?_)))))))
  refine zo rfl (bM (p:=some (.int .i64 8)) (q:=none) (m:=none) (p':=some 8) (q':=none) (m':=none) rfl rfl rfl rfl rfl rfl rfl (cT (s.buf (k:=2) rfl).view (a:=8) h8).1) (ae.call rfl rfl rfl rfl rfl rfl rfl (iQ hW (s.aa [2]) (lU (bk _ _) (a:=8) h8) (by have:=(J rc (by simp)).rd.data; simp; omega)) ?_)
  intro u h s
  have s:=s.eF
  dsimp only [ai,bringA] at s
  have hu:=(s.ax (k:=0) rfl (bN _ _)).cells
  refine zm rfl (zn rfl (zf rfl (Nm _ _) (ae.bn rfl rfl rfl rfl rfl (s.cZ (k:=6) rfl ig rfl (by decide) hu.1 hu.2) ?_)))
  intro h s
  dsimp only [Nat.reduceAdd,List.set,setA] at s
  refine zn rfl (zf rfl (Nn _ _) ?_)
  refine ae.bn rfl rfl rfl rfl rfl (by exact s.cZ (k:=6) rfl mG rfl (by decide) rfl rfl) (fun h s => ?_)
  dsimp only [Nat.reduceAdd,List.set,setA] at s
  refine zv (zr rfl (zm rfl (zf rfl (nO _ _) (zl rfl (by exact s.ld (k:=2) rfl bg rfl) ?_))))
  refine zo rfl (bM (p:=none) (q:=some (.int .i64 8)) (m:=none) (p':=none) (q':=some 8) (m':=none) rfl rfl rfl rfl rfl rfl rfl (eV (s.buf (k:=1) rfl).view (b:=8) h8).1) (ae.call rfl rfl rfl rfl rfl rfl rfl (kI hW s (k:=1) rfl (p9 (bk _ _) (b:=8) h8) (by rw [List.length_take]; omega)) ?_)
  rintro v h' ⟨rfl,rfl⟩
  refine zo rfl (RJ (r:=.int .u64 ((base+szB bA:Nat):Int)) rfl rfl (Sh.trans (by rw [show max (((fy base (base+szB A) (A++rc::B)).base:Nat):Int) ((leN (rc.data.take 8):Nat):Int)=((base+szB bA:Nat):Int) by rw [←fK]; show max (base:Int) _=_; omega]))) ?_
  refine za rfl (zv ?_)
  have s:=(bQ.2 ⟨u,(s.aa [6,0])⟩).aa [0,5,2,4]
  have s:=(((s.del 4).del 4).del 4).del 4
  dsimp only [ai,bringA,getA] at s
  exact ym hT Om J tq U.dw s ⟨rfl,rfl,trivial⟩ hy (fun E' h' I e1 e2 s'=>⟨trivial,_,oR e1 e2,.inl ⟨I,rfl,s'⟩⟩) (fun E' h' I e1 e2 s'=>⟨trivial,_,oR e1 e2,.inr ⟨I,_,_,_,rfl,s'⟩⟩)
end
end Go.Proofs.YtconhghphklfjaaGreat.Am
namespace Go.Proofs.YtconhghphklfjaaGreat.Am
open Go
structure LR (B0 aK:Nat)(mk:List Nat)(rs:List b9)(x:LD): Prop where
 base:x.1.base=B0
 b:x.1.b=logB B0 rs
 bE:x.1.bE=fF 0 rs
 check:x.1.check=aK
 log:x.2.log=logB B0 rs
 alive:x.2.dead=false
 aJ:x.2.aJ<0
 mark:x.2.mark=mk
 gQ:x.2.gQ=none
 tail:x.2.tail=[]
 wait:∀w∈x.2.waiting,w.1<x.2.aj.length∧w.2.length=512
 rs:∀r∈rs,r.Ok
theorem pJ (base aK:Nat)(mk:List Nat)(rs:List b9): gA (LR base aK mk rs):=by
 refine ⟨fun x n h => ?_,fun x n b h => ?_⟩
 ·unfold bD
  split
  ·exact h
  ·have e:x.2.ct=(0,{ x.2 with aT:=x.2.log.length }):=by
    rw [Dk.ct,if_neg (by rw [h.alive]; decide),if_neg (by have:=h.aJ; omega),j7 h.aJ]
   rw [e,if_neg (by simp)]
   exact ⟨h.base,h.b,h.bE,h.check,h.log,h.alive,h.aJ,h.mark,h.gQ,h.tail,h.wait,h.rs⟩
 ·unfold Dk.bF
  rw [if_neg (by rw [h.alive]; decide)]
  split
  ·exact h
  ·rename_i I
   rw [if_neg (by have:=h.aJ; omega)]
   refine ⟨h.base,h.b,h.bE,h.check,h.log,h.alive,?_,h.mark,h.gQ,h.tail,fun w hw => ?_,h.rs⟩
   ·show x.2.cO.aJ<0
    rw [j7 h.aJ]; exact h.aJ
   ·rcases List.mem_append.1 hw with hw | hw
    ·exact h.wait w hw
    ·rw [List.mem_singleton.1 hw]
     have I:=Classical.not_not.1 I
     exact ⟨by show n.toNat<x.2.aj.length; omega,I.2.2⟩
theorem ED {kd:Int}{tx pv nx:Nat}{data:List Nat}{aA:List bV}: data.length≤(cy kd tx pv nx data aA).length∧aA.length≤(cy kd tx pv nx data aA).length:=by
 have:=AY aA
 simp only [cy,List.length_append,List.length_cons,List.length_nil]
 omega
theorem LR.app {base aK kd tx:Nat}{mk:List Nat}{rs:List b9}{x:LD}{data:List Nat}{c:List bV}(h:LR base aK mk rs x)(hk:1≤kd)(hg:cx kd c=true)(ht:tx<65536)
 (ha:(aS x kd tx 0 0 data c).1.2=0): ∃r:b9,r.Ok∧r.kd=kd∧r.tx=tx∧r.pv=0∧r.nx=0∧r.data=data∧r.aA=c∧(aS x kd tx 0 0 data c).1.1=base+szB rs∧LR base aK mk (rs++[r]) (aS x kd tx 0 0 data c).2∧logB base (rs++[r])=logB base rs++cK x.1 kd tx 0 0 data c∧(logB base rs).length+(cK x.1 kd tx 0 0 data c).length≤x.2.room:=by
 rcases jL x kd tx 0 0 data c with ⟨e,he,_,U⟩ | ⟨_,hf,_⟩ | ⟨_,hb,hd,gV,hf,U⟩
 ·rw [U] at ha; exact absurd ha he
 ·have:=h.aJ; omega
 ·rw [j7 h.aJ] at U
  have UL:=ED (kd:=kd) (tx:=tx) (pv:=0) (nx:=0) (data:=data) (aA:=c)
  have hr:(b9.mk kd tx 0 0 data c).Ok:=⟨hg,⟨by show tx<_; omega,by show 0<_; decide,by show 0<_; decide,by show data.length≤_; omega,by show c.length≤_; omega⟩,hb⟩
  have hl:(logB base rs).length=szB rs:=gT
  have hn:cK x.1 kd tx 0 0 data c=eW (base+szB rs) (b9.mk kd tx 0 0 data c).bd:=by rw [cK,h.base,h.b,hl]; rfl
  have I:logB base (rs++[b9.mk kd tx 0 0 data c])=logB base rs++cK x.1 kd tx 0 0 data c:=by rw [A8,hn]; simp only [logB,List.append_nil]
  have UM:fF 0 (rs++[b9.mk kd tx 0 0 data c])=fF 0 rs++[szB rs]:=by rw [qA,Nat.zero_add]; rfl
  refine ⟨b9.mk kd tx 0 0 data c,hr,rfl,rfl,rfl,rfl,rfl,rfl,?_,?_,I,by rw [←h.log]; exact gV⟩
  ·rw [U]; show x.1.base+x.1.b.length=_; rw [h.base,h.b,hl]
  ·rw [U]
   refine ⟨h.base,?_,?_,h.check,?_,h.alive,h.aJ,h.mark,h.gQ,h.tail,h.wait,fun r J => ?_⟩
   ·show x.1.b++_=_; rw [h.b,I]
   ·show x.1.bE++[x.1.b.length]=_; rw [h.bE,h.b,hl,UM]
   ·show x.2.log++_=_; rw [h.log,I]
   ·rcases List.mem_append.1 J with J | J
    ·exact h.rs r J
    ·rw [List.mem_singleton.1 J]; exact hr
theorem pH.lr {N B base aK kd tx aD:Nat}{mk:List Nat}{rs:List b9}{ε ε':aM}{now:List (Int×List Nat)}{data:List Nat}{e:Int}{cl:Bool}(hr:pH ε now kd tx 0 0 data 0 aD e cl ε')(h:EI N B ε)(hn:NW N now)(hl:LR base aK mk rs ε.2)(h1:1≤kd)(h2:kd≤7)(ht:tx<65536):
  (cl=false∧aD=0∧LR base aK mk rs ε'.2)∨(cl=true∧(e=0→∃r:b9,r.kd=kd∧r.tx=tx∧r.pv=0∧r.nx=0∧r.data=data∧aD=base+szB rs∧LR base aK mk (rs++[r]) ε'.2∧∃I,iu now (ck now) ε 0 r.aA I)):=by
 have DX:∀n∈ck now,0≤n∧n<N:=fun n hq=>hn.keys n (oz.1 hq)
 have hN:=h.many
 have U:∀ {c:List bV} {ε':aM} {e:Int},iu now (ck now) ε e c ε'→cx kd c=true:=fun J=>by
  refine AO ⟨by omega,by omega⟩ (J.fit (fun x hx=>fJ (hn.good x hx).1) fun n hq => ?_)
  have:=DX n hq
  omega
 have pr:=pJ base aK mk rs
 cases hr with
 | arg hh=>exact .inl ⟨rfl,rfl,hl⟩
 | dead _ _ _ hd=>exact .inl ⟨rfl,rfl,hl⟩
 | lK e c ε' _ _ _ _ J he=>exact .inl ⟨rfl,rfl,pr.ch J hl⟩
 | app c I _ _ _ _ J he =>
  refine .inl ⟨rfl,rfl,?_⟩
  have vH:=pr.ch J hl
  rcases jL I.2 kd tx 0 0 data c with ⟨e,he,_,hq⟩ | ⟨_,hf,_⟩ | ⟨_,hb,hd,U,hf,hq⟩
  ·rw [hq]; exact vH
  ·have:=vH.aJ; omega
  ·rw [hq] at he; exact absurd rfl he
 | put c I e WM _ _ _ _ J ha hp =>
  refine .inr ⟨rfl,fun he => ?_⟩
  obtain ⟨r,k1,k2,k3,k4,k5,k6,k7,k8,k9,_⟩:=(pr.ch J hl).app h1 (U J) ht ha
  subst k7
  exact ⟨r,k2,k3,k4,k5,k6,by rw [if_pos he]; exact k8,(pJ base aK mk _).pt hp k9,I,J⟩
end Go.Proofs.YtconhghphklfjaaGreat.Am
namespace Go.Proofs.YtconhghphklfjaaGreat.Am
open Go
def je (k:Int): Nat:=Nat.land ((k%(2^(IntKind.i64).bits:Int)).toNat) 3+1
def oS (k:Int): Nat:=Nat.land ((k%(2^(IntKind.i64).bits:Int)).toNat) 255
theorem w_ {k:Int}: 1≤je k∧je k≤4:=by
 have:Nat.land ((k%(2^(IntKind.i64).bits:Int)).toNat) 3≤3:=Nat.and_le_right
 unfold je; omega
theorem xb {k:Int}: oS k≤255:=Nat.and_le_right
theorem qC {P:Program}{h:H}{t:TypeId}{x y:Operand}{k:Int}{m:Nat}(hm:m<65536): binV P h .and t x y (.int .i64 k) (.int .i64 (m:Int))=some (.int .i64 ((Nat.land ((k%(2^(IntKind.i64).bits:Int)).toNat) m:Nat):Int)):=by
 have I:(((m:Nat):Int)%(2^(IntKind.i64).bits:Int)).toNat=m:=by simp only [IntKind.bits]; omega
 simp only [binV,ikBeq,cond_true,intV,bitsV,I]
 have hle:Nat.land ((k%(2^(IntKind.i64).bits:Int)).toNat) m≤m:=Nat.and_le_right
 rw [wrap_i64 (n:=Nat.land ((k%(2^(IntKind.i64).bits:Int)).toNat) m) (by omega)]
inductive vY (N:Nat)(D:ik)(ε:aM)(ps:List (List Nat)): Int→List (List Nat)→Nat→aM→Prop where
 | drop (ε':aM) (ha:D.act=2) (hp:∀R:LD→Prop,gA R→R ε.2→R ε'.2) (hg:∀m,pgA ε' m=pgA ε m):vY N D ε ps 0 ps 0 ε'
 | fail (Bb ε':aM) (aD:Nat) (e:Int) (ha:D.act≠2) (hp:∀R:LD→Prop,gA R→R ε.2→R Bb.2) (hg:∀m,pgA Bb m=pgA ε m) (hw:NW N (nowW N D.w [])) (hi:∃B,EI N B Bb)
  (hr:pH Bb (nowW N D.w []) (je D.bX) (oS D.bX) 0 0 D.data 0 aD e false ε') (he:e=7∨e=2):vY N D ε ps e ps 0 ε'
 | done (Bb ε':aM) (aD:Nat) (ha:D.act≠2) (hp:∀R:LD→Prop,gA R→R ε.2→R Bb.2) (hg:∀m,pgA Bb m=pgA ε m) (hw:NW N (nowW N D.w [])) (hi:∃B,EI N B Bb)
  (hr:pH Bb (nowW N D.w []) (je D.bX) (oS D.bX) 0 0 D.data 0 aD 0 true ε'):vY N D ε ps 0 (nxW N D.w ps) aD ε'
theorem vY.lr {N base aK aD:Nat}{mk:List Nat}{rs:List b9}{D:ik}{ε ε':aM}{ps U:List (List Nat)}{e:Int}(ho:vY N D ε ps e U aD ε')(hl:LR base aK mk rs ε.2):
  (aD=0∧LR base aK mk rs ε'.2)∨∃I:b9,I.kd=je D.bX∧I.tx=oS D.bX∧I.pv=0∧I.nx=0∧I.data=D.data∧aD=base+szB rs∧LR base aK mk (rs++[I]) ε'.2:=by
 have yn:=w_ (k:=D.bX)
 have Av:=xb (k:=D.bX)
 cases ho with
 | drop ε' ha J hg=>exact .inl ⟨rfl,J _ (pJ base aK mk rs) hl⟩
 | fail Bb ε' aD e ha J hg hw hi hr he =>
  obtain ⟨B,hi⟩:=hi
  rcases hr.lr hi hw (J _ (pJ base aK mk rs) hl) (by omega) (by omega) (by omega) with ⟨_,_,h⟩ | ⟨h,_⟩
  ·exact .inl ⟨rfl,h⟩
  ·cases h
 | done Bb ε' aD ha J hg hw hi hr =>
  obtain ⟨B,hi⟩:=hi
  rcases hr.lr hi hw (J _ (pJ base aK mk rs) hl) (by omega) (by omega) (by omega) with ⟨h,_⟩ | ⟨_,h⟩
  ·cases h
  ·obtain ⟨I,k1,k2,k3,k4,k5,k6,k7,_⟩:=h rfl
   exact .inr ⟨I,k1,k2,k3,k4,k5,k6,k7⟩
section
variable {told:Nat→Option (List V→H→Option (V×H))} {h:H} {S:List ah} {X:ah} {r k q p a g aK N B:Nat} {op v x pv nv wv dv:V} {l data:List Nat} {ε On:aM} {ps nx:List (List Nat)} {now:List (Int×List Nat)}
noncomputable def UN : Code:=cn [1,1,1,1,1,1] ((Tryz.f28.body).getD .skip)
theorem Hh (hT:W told){p5:Nat}{D:ik}(hB:B≤900)(I:EI N B ε)(hw:NW N now)(hx:NX N ps now nx)(hp:oc ε ps)(hD:D.data.length≤1048576)
 (ko:now=nowW N D.w [])(xR:nx=nxW N D.w ps)(Oo:∀R:LD→Prop,gA R→R On.2→R ε.2)(n4:∀m,pgA ε m=pgA On m)
 (s:Sat h (eE g a now false::cz a p q r (.ptr g 0) data aK::cB r p q ε.1::bj q p ε.2.1::az p ε.2.2::.bp dv D.data::.arr 1 nv (d_ nx)::.arr 1 pv (d_ ps)::pt p5 (.cells 4 [.int .i64 D.act,.int .i64 D.bX,wv,dv] false)::S))
 {E:List (Nat×V)}(hE:Has E [(0,.ptr a 0),(1,pv),(5,.ptr p5 0),(18,.ptr g 0),(20,nv)]){Q:Ex→List (Nat×V)→H→Prop}
 (hq:∀(e:Int) (ua:List (List Nat)) (Da:V) (aD:Nat) (ε':aM) (E':List (Nat×V)) (h':H),vY N D On ps e ua aD ε'→EI N (B+2) ε'→ua.length=N→oc ε' ua →
   look E' 6=some Da→look E' 7=some (.int .u64 (aD:Int))→look E' 8=some (.bool true)→look E' 9=some (.int .i64 e) →
   Sat h' (cz a p q r .bI data aK::cB r p q ε'.1::bj q p ε'.2.1::az p ε'.2.2::.arr 1 Da (d_ ua)::S)→Q .ret E' h'):
  WP ⟨Tryz.prog,told⟩ 262 UN E h Q:=by
 have hN:=I.many
 have Eo:=I.b8
 have ee:=I.el.size
 have hv:=s.ax (k:=5) rfl (bN _ _)
 have s:=s.aa [8]
 dsimp only [bringA,getA,ai] at s
 refine WP.has hE (zw (zg rfl (zf rfl (z6 _ _) (zl rfl (by exact s.ld (k:=0) rfl cq rfl) ?_))))
 by_cases J:D.act=2
 ·skip
  refine ae.aR rfl rfl rfl (af rfl rfl cS) (by simp; exact J) ?_
  refine zv (zi rfl (zg rfl (zm rfl (ae.call rfl rfl rfl rfl rfl rfl rfl (AK hT (s.aa [1,1])) ?_))))
  rintro v h ⟨rfl,s⟩
  dsimp only [bringA,getA,ai] at s
  refine zv (zg rfl (zm rfl (za rfl (za rfl (za rfl (za rfl (zv (WP.ret ?_))))))))
  exact hq 0 ps pv 0 ε _ _ (.drop ε J Oo n4) (I.more (by omega)) hx.old hp rfl rfl rfl rfl (((((s.aa [1,2,2,2,4]).del 8).del 7).del 6).del 5)
 ·have yn:=w_ (k:=D.bX)
  have Av:=xb (k:=D.bX)
  refine ae.aE rfl rfl rfl (af rfl rfl cS) (by simp; exact J) ?_
  refine zv (zj rfl (WP.skip (zg rfl (zm rfl (zf rfl (vr _ _) (zl rfl (by exact s.ld (k:=0) rfl cq rfl) ?_))))))
  refine zb rfl (qC (m:=3) (by decide)) ?_
  refine zo rfl (af (r:=.int .i64 (je D.bX:Int)) rfl rfl (by rw [show ((je D.bX:Nat):Int)=1+((Nat.land ((D.bX%(2^(IntKind.i64).bits:Int)).toNat) 3:Nat):Int) by unfold je; omega]; exact bl (aF (by unfold je at yn; omega) (by unfold je at yn; omega)))) ?_
  refine zf rfl (vr _ _) (zl rfl (by exact s.ld (k:=0) rfl cq rfl) ?_)
  refine zb rfl (qC (m:=255) (by decide)) ?_
  refine zo rfl (bz (r:=.int .u64 (oS D.bX:Int)) rfl (gC Tryz.underlying3 Tryz.underlying35 (dM (by omega) (by unfold oS at Av; omega)))) ?_
  refine zf rfl (FX _ _) (zl rfl (by exact s.ld (k:=0) rfl bg rfl) ?_)
  refine zo rfl (bW rfl (yf hv)) ?_
  have s:=s.jZ (k:=4)
  refine ae.call rfl rfl rfl rfl rfl rfl rfl (LK (lM:=0) hT (s.aa [2,2,2,2,2,2,0]) (bN _ _) rfl I.ok (by omega) (fun e he=>fJ (hw.good e he).1) (by have:=hw.len; omega) (fun n hn=>by have:=hw.keys n hn; omega) (by omega) (by decide) (by decide) (by omega) I.el.log (by omega)) ?_
  rintro v h ⟨aD,e,cl,ε',hr,rfl,s⟩
  dsimp only [bringA,getA,ai] at s
  have qY:=hr
  rw [ko] at qY
  rcases I.done (by omega) hw (by omega) (by omega) hr with ⟨rfl,he,U,EE⟩ | ⟨rfl,rfl,U,EE⟩
  ·have s:Sat h (eE g a now false::cz a p q r (.ptr g 0) data aK::_):=s
   have UO:e≠9:=by omega
   have out:vY N D On ps e ps 0 ε':=.fail ε ε' aD e J Oo n4 (by rw [←ko]; exact hw) ⟨B,I⟩ qY he
   refine zm rfl (ze rfl (ze rfl (za rfl (za rfl (zv (zw (zg rfl (zm rfl (ae.aE rfl rfl rfl (af rfl rfl cS) (by simp; exact UO) ?_)))))))))
   refine zv (zj rfl (WP.skip (zw (zg rfl (zm rfl (ae.aR rfl rfl rfl (af rfl rfl aN) (by simp; omega) ?_))))))
   refine zv (zi rfl (zg rfl (zm rfl (ae.call rfl rfl rfl rfl rfl rfl rfl (AK hT s) ?_))))
   rintro v h ⟨rfl,s⟩
   refine zv (zg rfl (zm rfl (zm rfl ?_)))
   have fin:=(((((s.aa [1,1,1,1,4]).del 8).del 7).del 6).del 5)
   rcases he with rfl | rfl
   ·skip
    refine ae.aR rfl rfl rfl (af rfl rfl cS) (by decide) ?_
    refine zm rfl (zx rfl (zx rfl (zq rfl (zm rfl (za rfl (za rfl (za rfl (za rfl (zv (WP.ret ?_))))))))))
    exact hq 7 ps pv 0 ε' _ _ out U hx.old (hp.of fun m _=>EE m) rfl rfl rfl rfl fin
   ·skip
    refine ae.aE rfl rfl rfl (af rfl rfl cS) (by decide) ?_
    refine zm rfl (zm rfl (ae.aR rfl rfl rfl (af rfl rfl cS) (by decide) ?_))
    refine zp rfl (zm rfl (za rfl (za rfl (za rfl (za rfl (zv (WP.ret ?_)))))))
    exact hq 2 ps pv 0 ε' _ _ out U hx.old (hp.of fun m _=>EE m) rfl rfl rfl rfl fin
  ·have s:Sat h (eE g a now true::cz a p q r .bI data aK::_):=s
   refine zm rfl (ze rfl (ze rfl (za rfl (za rfl (zv (zw (zg rfl (zm rfl (ae.aE rfl rfl rfl (af rfl rfl cS) (by decide) ?_)))))))))
   refine zv (zj rfl (WP.skip (zw (zg rfl (zm rfl (ae.aE rfl rfl rfl (af rfl rfl aN) (by decide) ?_))))))
   refine zv (zj rfl (WP.skip (zg rfl (zm rfl (zm rfl (za rfl (za rfl (za rfl (za rfl (zv (WP.ret ?_)))))))))))
   exact hq 0 nx nv aD ε' _ _ (by rw [xR]; exact .done ε ε' aD J Oo n4 (by rw [←ko]; exact hw) ⟨B,I⟩ qY) U hx.len (hx.Pw hw hp EE) rfl rfl rfl rfl (((((s.aa [1,1,1,1,3]).del 8).del 7).del 6).del 5)
def UP (N B a p q r:Nat)(D:ik)(ε:aM)(ps:List (List Nat))(data:List Nat)(aK:Nat)(S:List ah)(Q:Ex→List (Nat×V)→H→Prop): Prop :=
 ∀(e:Int) (I:List (List Nat)) (J:V) (aD:Nat) (ε':aM) (U:List (Nat×V)) (h':H),vY N D ε ps e I aD ε'→EI N (B+2) ε'→I.length=N→oc ε' I →
   look U 6=some J→look U 7=some (.int .u64 (aD:Int))→look U 8=some (.bool true)→look U 9=some (.int .i64 e) →
   Sat h' (cz a p q r .bI data aK::cB r p q ε'.1::bj q p ε'.2.1::az p ε'.2.2::.arr 1 J (d_ I)::S)→Q .ret U h'
noncomputable def UQ : Code:=cn [1,1] ((Tryz.f28.body).getD .skip)
theorem Jo (U:W told){p5:Nat}{cs:List V}{D:ik}{Q:Ex→List (Nat×V)→H→Prop}(hB:B≤900)(I:EI N B ε)(hN:ps.length=N)(hp:oc ε ps)(hD:D.data.length≤1048576∧D.w.length≤1048576∧∀x∈D.w,x.2.length≤1048576)
 (s:Sat h (cz a p q r .bI data aK::cB r p q ε.1::bj q p ε.2.1::az p ε.2.2::.arr 1 pv (d_ ps)::pt p5 (.cells 4 [.int .i64 D.act,.int .i64 D.bX,wv,dv] false)::gd 2 wv cs::jO cs D.w::.bp dv D.data::S))
 {E:List (Nat×V)}(hE:Has E [(0,.ptr a 0),(1,pv),(5,.ptr p5 0)])(hq:UP N B a p q r D ε ps data aK S Q):
  WP ⟨Tryz.prog,told⟩ 262 UQ E h Q:=by
 have UR:=I.many
 refine WP.has hE (zg rfl (zm rfl (ae.call rfl rfl rfl rfl rfl rfl rfl (GG U s) ?_)))
 rintro v h ⟨g,rfl,s⟩
 refine zm rfl (ze rfl (ze rfl (za rfl (za rfl (zv (zw (zg rfl (zm rfl (ae.aE rfl rfl rfl (af rfl rfl aN) (by decide) ?_)))))))))
 refine zm rfl (zm rfl (ae.aE rfl rfl rfl (af rfl rfl (vN Tryz.underlying27)) (rfl) (zp rfl (zv (zj rfl (WP.skip (zg rfl ?_)))))))
 obtain ⟨h1,e1,s1⟩:=LL (P:=Tryz.prog) s Tryz.underlying57 Ni Nh rfl (by decide)
 refine ae.any rfl rfl rfl (OpR.of (R:=fun v h'=>v=.sl h.next 0 0 (.exact 0)∧h'=h1) (mD rfl e1) ⟨rfl,rfl⟩) ?_
 rintro v h' ⟨rfl,rfl⟩
 have s:=(LM (q:=1) s1).aa [0,5]
 dsimp only [bringA,getA,ai] at s
 obtain ⟨i1,js,iI,pq⟩:=A3
 obtain ⟨nv,h2,e2,s2⟩:=fP (P:=Tryz.prog) s Tryz.underlying57 js Ni iI (by omega) rfl (by decide) (by rw [iN,hN]; simp; omega)
 refine zm rfl (ae.any rfl rfl rfl (OpR.of (R:=fun v h'=>v=nv∧h'=h2) (j_ rfl rfl e2) ⟨rfl,rfl⟩) ?_)
 rintro v h ⟨rfl,rfl⟩
 rw [List.nil_append] at s2
 refine za rfl (zv (zw (zg rfl (za rfl (zv (WP.block ?_))))))
 refine G2 U (N:=N) (ps:=ps) UR (by omega) hD.2 D.w.length 0 ε [] ps _ _ _ _ (by omega) I (NW.nil N) ⟨hN,hN,fun n w h=>h⟩ (s2.aa [2,2,2,2,2,0,0,0,0,0]) ⟨rfl,rfl,rfl,rfl,rfl,rfl,trivial⟩ (fun ε' eY tZ E' h' g1 g2 g3 g4 J g5 s' => ?_)
 rw [List.drop_zero] at J
 have s:=s'
 exact Hh U (B:=B) (On:=ε) hB g1 g3 g4 (hp.of fun m _=>g2 m) hD.1 J.2.1 J.1 J.2.2 g2 (((s.aa [0,0,0,0,0,5,0,0,0]).del 10).del 9) g5 hq
theorem Jp (hT:W told){D:ik}(ha:¬(3≤D.act∧D.act≤7))(hB:B≤900)(kO:EI N B ε)(hN:ps.length=N)(hp:oc ε ps)(hD:D.data.length≤1048576∧D.w.length≤1048576∧∀x∈D.w,x.2.length≤1048576)
 (s:Sat h (cz a p q r .bI data aK::cB r p q ε.1::bj q p ε.2.1::az p ε.2.2::.arr 1 pv (d_ ps)::kf wv dv D::S)):
  Call ⟨Tryz.prog,told⟩ 28 [.ptr a 0,pv,.agg [.int .i64 D.act,.int .i64 D.bX,wv,dv]] h fun v h'=>∃(e:Int) (I:List (List Nat)) (J:V) (aD:Nat) (ε':aM),
   vY N D ε ps e I aD ε'∧EI N (B+2) ε'∧I.length=N∧oc ε' I∧v=.aW [J,.int .u64 (aD:Int),.bool true,.int .i64 e] ∧
   Sat h' (cz a p q r .bI data aK::cB r p q ε'.1::bj q p ε'.2.1::az p ε'.2.2::.arr 1 J (d_ I)::S):=by
 -- the deed's parts
 have s:=((s.aa [5]).dup (aq.kf _ _ _)).dY (B:=.bp dv D.data) (fun _ _ h=>h.2) |>.aa [1] |>.dY (B:=.xs fun cs:List V=>.an (gd 2 wv cs) (jO cs D.w)) (fun _ _ h=>h.1)
 dsimp only [bringA,getA,ai] at s
 obtain ⟨cs,s⟩:=eA.1 s
 have s:=(s.dup (aq.an (aq.gd _ _ _) (aq.jO _ _))).dY (B:=gd 2 wv cs) (fun _ _ h=>h.1) |>.aa [1] |>.dY (B:=jO cs D.w) (fun _ _ h=>h.2)
 have s:Sat h (jO cs D.w::gd 2 wv cs::.bp dv D.data::cz a p q r .bI data aK::cB r p q ε.1::bj q p ε.2.1::az p ε.2.2::.arr 1 pv (d_ ps)::S):=s
 have U:=s.R9 (j:=1) rfl
 have US:=(s.ax (k:=2) rfl (bN _ _)).cells
 have fK:(V.agg [.int .i64 D.act,.int .i64 D.bX,wv,dv]).cells.all storable=true:=by
  simp only [V.cells,List.all_cons,List.all_nil,U.2.1,US.2]; rfl
 refine Call.of_wp (hT.free _ rfl) Tryz.func28 rfl rfl (zg rfl (ae.bO s rfl rfl rfl (ff rfl fK) ?_))
 intro p5 h s
 have s:Sat h (pt p5 (.cells 4 [.int .i64 D.act,.int .i64 D.bX,wv,dv] false)::_):=s
 have s:=s.aa [0,3,3,3,3,3,2,1,0]
 dsimp only [bringA,getA,ai] at s
 refine za rfl (za rfl (za rfl (za rfl (zv (zw (zg rfl (zf rfl (z6 _ _) (zl rfl (by exact s.ld (k:=0) rfl cq rfl) ?_))))))))
 refine zv (WP.block (zg rfl (ae.aE rfl rfl rfl (af rfl rfl cS) (by simp; omega) ?_)))
 refine za rfl (zv (zj rfl (zg rfl (ae.aE rfl rfl rfl (af rfl rfl cS) (by simp; omega) ?_))))
 refine za rfl (zv (zj rfl (zg rfl (ae.aE rfl rfl rfl (af rfl rfl cS) (by simp; omega) ?_))))
 refine za rfl (zv (zj rfl (zg rfl (ae.aE rfl rfl rfl (af rfl rfl cS) (by simp; omega) ?_))))
 refine za rfl (zv (zj rfl (zg rfl (ae.aE rfl rfl rfl (af rfl rfl cS) (by simp; omega) ?_))))
 refine za rfl (zv (zj rfl ?_))
 exact WP.skip (Jo hT hB kO hN hp hD (s.aa [1,1,1,1,1,0,1,1,0]) ⟨rfl,rfl,rfl,trivial⟩ (fun e I J aD ε' E' h' h1 h2 h3 h4 l6 l7 l8 l9 s'=>⟨trivial,_,Sb l6 l7 l8 l9,e,I,J,aD,ε',h1,h2,h3,h4,rfl,s'⟩))
end
end Go.Proofs.YtconhghphklfjaaGreat.Am
