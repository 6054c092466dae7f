/- SpaceRoots: a part of its proof; conditions: its statement's. -/
import Derived.Test.YtefepnnfphdkpaaGreatF25
namespace Go.Proofs.YtefepnnfphdkpaaGreat.Am
open Go
inductive uG (aL:Int)(cX now:List Nat): Nat→List cq→Prop where
 | done (i:Nat) (h:now.length≤i):uG aL cX now i []
 | skip (i:Nat) (l:List cq) (h:i<now.length) (he:cX[i]?=now[i]?) (hr:uG aL cX now (i+1) l):uG aL cX now i l
 | take (i e:Nat) (l:List cq) (h1:i<e) (h2:e≤now.length) (h3:cX[i]?≠now[i]?) (h4:∀k,e≤k→k<e+8→cX[k]?=now[k]?) (hr:uG aL cX now e l):uG aL cX now i (⟨aL,i,false,(now.take e).drop i⟩::l)
def FP (aL:Int)(cX now:List Nat)(c:List cq): Prop:=∃l,uG aL cX now 12 l∧c=if l=[] then [⟨aL,0,false,[]⟩] else l
theorem uH : ∃i,Tryz.prog.info? 180=some i∧i.size=4∧i.bytes=48 :=
 ⟨_,(show Tryz.prog.info? 180=some ((Tryz.prog.info? 180).getD default) by kernel_rfl),by kernel_rfl,by kernel_rfl⟩
section
variable {told:cQ} {h:H} {S:List au} {X Y:au} {r k q p ct a g aH:Nat} {op v x u wh di:V} {l b cX now:List Nat}
noncomputable def rgO : Code:=dB [1,1,0,1,0,0] ((Tryz.f115.body).getD .skip)
noncomputable def rgI : Code:=dB [1,1,0,1,0,0,1,0,1,1,0,1,0,0] ((Tryz.f115.body).getD .skip)
theorem Rz {pg:Int}{I:Nat}{t7:V}{k1 k2:Nat}(s:Sat h S)(Bq:getA S k1=some X)(hX:cT X (cU u cX))(OB:getA S k2=some Y)(hY:cT Y (cU v now))(wM:cX.length=512)(jo:now.length=512): ∀(j i e:Nat) (E:List (Nat×V)) (Q:Ex→List (Nat×V)→H→Prop),i+j=512→I<e→e≤i→(∀k,e≤k→k<i→cX[k]?=now[k]?) →
  Has E [(0,.int .i64 pg),(1,u),(2,v),(7,t7),(8,.int .i64 (I:Int)),(9,.int .i64 (e:Int)),(10,.int .i64 (i:Int))] →
  (∀J E',I<J→J≤512→(∀k,J≤k→k<J+8→cX[k]?=now[k]?)→Has E' [(0,.int .i64 pg),(1,u),(2,v),(7,t7),(8,.int .i64 (I:Int)),(9,.int .i64 (J:Int))]→Q (.exit 2) E' h) →
  WP ⟨Tryz.prog,told⟩ 71 (.loop rgI) E h Q:=by
 have hv:=s.aE OB hY
 have hu:=s.aE Bq hX
 have hlen:lenV Tryz.prog h 28 v=some (.int .i64 now.length):=a_ aG hv
 intro j
 induction j with
 | zero =>
  intro i e E Q hi h1 h2 hg hE hq
  refine WP.loop (WP.has hE (zK 5 rfl (zo rfl (aU rfl rfl rfl hlen) (zh rfl (af rfl rfl aT) (by simp <;> omega) ?_))))
  refine zk 8 rfl (WP.exit ?_)
  refine hq e _ h1 (by omega) (fun k k1 _ => ?_) ⟨rfl,rfl,rfl,rfl,rfl,rfl,aa⟩
  by_cases hk:k<i
  ·exact hg k k1 hk
  ·rw [mU (by omega),mU (by omega)]
 | succ j ih =>
  intro i e E Q hi h1 h2 hg hE hq
  have hb:now[i]?=some (now[i]'(by omega)):=bf _
  generalize (now[i]'(by omega))=b at hb
  have hc:cX[i]?=some (cX[i]'(by omega)):=bf _
  generalize (cX[i]'(by omega))=c at hc
  obtain ⟨id,off,e1,e2⟩:=eP hv hb
  obtain ⟨yJ,off',e3,e4⟩:=eP hu hc
  refine WP.loop (WP.has hE (zK 5 rfl (zo rfl (aU rfl rfl rfl hlen) (zt rfl (af rfl rfl aT) (by simp <;> omega) ?_))))
  refine zk 3 rfl (zb rfl (by exact br (aC (by omega) (by omega))) ?_)
  by_cases hd:i<e+8
  ·skip
   refine zt rfl (af rfl rfl aT) (by simp <;> omega) ?_
   refine zk 5 rfl (WP.block (zw ?_))
   have s0:=s
   refine WP.drawn [ai,ai,ai,ai,ai,ai,ai,ai,ai] rfl (by kernel_rfl) (by kernel_rfl) ?_
   refine zM rfl (zM rfl (zO rfl (dr (r:=.ptr yJ off') rfl rfl e3) (zL rfl e4 (zM rfl (zM rfl (zO rfl (dr (r:=.ptr id off) rfl rfl e1) (zL rfl e2 ?_)))))))
   by_cases K4:c=b
   ·skip
    refine aB.oD rfl rfl rfl rfl (af rfl rfl aN) (by simp; exact_mod_cast K4) ?_
    refine aB.nil ⟨⟨aa,aa,aa,aa,aa,aa,aa,aa,aa,aa⟩,?_⟩
    refine zj rfl (WP.skip (zr rfl (zm rfl (zb rfl (by exact br (aC (by omega) (by omega))) ?_))))
    refine za rfl (zv ?_)
    exact ih (i+1) e _ Q (by omega) h1 (by omega) (fun k k1 k2=>(by
     rcases lR k i with h | h
     ·exact hg k k1 h
     ·rw [show k=i by omega,hb,hc,K4])) ⟨rfl,rfl,rfl,rfl,rfl,rfl,rfl,aa⟩ hq
   ·skip
    refine aB.y5 rfl rfl rfl rfl (af rfl rfl aN) (by simp; omega) ?_
    refine aB.nil ⟨⟨aa,aa,aa,aa,aa,aa,aa,aa,aa,aa⟩,?_⟩
    refine zK 3 rfl (zb rfl (by exact br (aC (by omega) (by omega))) ?_)
    refine za rfl (zv (zr rfl (zm rfl (zb rfl (by exact br (aC (by omega) (by omega))) ?_))))
    refine za rfl (zv ?_)
    exact ih (i+1) (i+1) _ Q (by omega) (by omega) (by omega) (fun k k1 k2=>absurd k2 (by omega)) ⟨rfl,rfl,rfl,rfl,rfl,rfl,rfl,aa⟩ hq
  ·skip
   refine zh rfl (af rfl rfl aT) (by simp <;> omega) ?_
   exact zk 3 rfl (WP.exit (hq e _ h1 (by omega) (fun k k1 k2=>hg k k1 (by omega)) ⟨rfl,rfl,rfl,rfl,rfl,rfl,aa⟩))
theorem RA (hT:W told){pg:Int}(hX:cT X (cU u cX))(hY:cT Y (cU v now))(wM:cX.length=512)(jo:now.length=512): ∀(j i:Nat) (acc:List cq) (av:V) (cs:List V) (h:H) (E:List (Nat×V)) (Q:Ex→List (Nat×V)→H→Prop),512≤i+j→i≤512→acc.length≤i →
  Sat h (.arr 4 av cs::dg cs acc::X::Y::S)→(∀l,uG pg cX now i l→uG pg cX now 12 (acc++l)) →
  Has E [(0,.int .i64 pg),(1,u),(2,v),(7,av),(8,.int .i64 (i:Int))] →
  (∀vi cs' l E' h',uG pg cX now 12 l→l.length≤512→Sat h' (.arr 4 vi cs'::dg cs' l::X::Y::S)→Has E' [(0,.int .i64 pg),(7,vi)]→Q (.exit 0) E' h') →
  WP ⟨Tryz.prog,told⟩ 71 (.loop rgO) E h Q:=by
 intro j
 induction j with
 | zero =>
  intro i acc av cs h E Q hj hi Xk s I hE hq
  have hlen:lenV Tryz.prog h 28 v=some (.int .i64 now.length):=a_ aG (s.aE (k:=3) rfl hY)
  refine WP.loop (WP.has hE (zK 5 rfl (zo rfl (aU rfl rfl rfl hlen) (zh rfl (af rfl rfl aT) (by simp <;> omega) ?_))))
  refine zk 2 rfl (WP.exit ?_)
  have:=I [] (.done _ (by omega))
  rw [bR] at this
  exact hq av cs acc _ _ this (by omega) s ⟨rfl,rfl,aa⟩
 | succ j ih =>
  intro i acc av cs h E Q hj hi Xk s I hE hq
  have hv:=s.aE (k:=3) rfl hY
  have hu:=s.aE (k:=2) rfl hX
  have hlen:lenV Tryz.prog h 28 v=some (.int .i64 now.length):=a_ aG hv
  by_cases bF:i<512
  ·have hb:now[i]?=some (now[i]'(by omega)):=bf _
   generalize (now[i]'(by omega))=b at hb
   have hc:cX[i]?=some (cX[i]'(by omega)):=bf _
   generalize (cX[i]'(by omega))=c at hc
   obtain ⟨id,off,e1,e2⟩:=eP hv hb
   obtain ⟨yJ,off',e3,e4⟩:=eP hu hc
   refine WP.loop (WP.has hE (zK 5 rfl (zo rfl (aU rfl rfl rfl hlen) (zt rfl (af rfl rfl aT) (by simp <;> omega) ?_))))
   refine zk 3 rfl (WP.block (zK 2 rfl ?_))
   have s0:=s
   refine WP.drawn [ai,ai,ai,ai,ai,ai,ai,ai,ai] rfl (by kernel_rfl) (by kernel_rfl) ?_
   refine zM rfl (zM rfl (zO rfl (dr (r:=.ptr yJ off') rfl rfl e3) (zL rfl e4 (zM rfl (zM rfl (zO rfl (dr (r:=.ptr id off) rfl rfl e1) (zL rfl e2 ?_)))))))
   by_cases K4:c=b
   ·skip
    refine aB.y5 rfl rfl rfl rfl (af rfl rfl eA) (by simp; exact_mod_cast K4) ?_
    refine aB.nil ⟨⟨aa,aa,aa,aa,aa,aa,aa,aa,aa,aa⟩,?_⟩
    refine zK 4 rfl (zb rfl (by exact br (aC (by omega) (by omega))) ?_)
    exact zk 2 rfl (WP.exit (ih (i+1) acc av cs h _ Q (by omega) (by omega) (by omega) s (fun l hl=>I l (.skip i l (by omega) (by rw [hb,hc,K4]) hl)) ⟨rfl,rfl,rfl,rfl,rfl,aa⟩ hq))
   ·skip
    refine aB.oD rfl rfl rfl rfl (af rfl rfl eA) (by simp; omega) ?_
    refine aB.nil ⟨⟨aa,aa,aa,aa,aa,aa,aa,aa,aa,aa⟩,?_⟩
    refine zK 5 rfl (zb rfl (by exact br (aC (by omega) (by omega))) ?_)
    refine zk 8 rfl (WP.block ?_)
    refine Rz s (k1:=2) (k2:=3) rfl hX rfl hY wM jo (512-(i+1)) (i+1) (i+1) _ _ (by omega) (Ea i) (aD _) (fun k k1 k2=>absurd k2 (by omega)) ⟨rfl,rfl,rfl,rfl,rfl,rfl,rfl,aa⟩ (fun e' E' Xl z6 he3 jd => ?_)
    refine WP.has jd ?_
    have Xm:=er hv (a:=i) (b:=e') (by omega) (by omega)
    refine zK 8 rfl (zo rfl (cf (p:=some (.int .i64 (i:Int))) (q:=some (.int .i64 (e':Int))) (m:=none) (p':=some i) (q':=some e') (m':=none) rfl rfl rfl rfl (by rw [dm (by omega)]; rfl) (by rw [dm (by omega)]; rfl) rfl Xm.1) ?_)
    refine zc rfl (mH hT (s.ae [3]) (lB hY (a:=i) (b:=e') (by omega) (by omega)) (by simp; omega)) ?_
    intro w h s
    dsimp only [bringA,getA,aQ] at s
    obtain ⟨wid,_,J,_,rfl,_⟩:=s.fI (by simp; omega)
    have s:=s.fU
    generalize Hq:(now.take e').drop i=bs at s
    refine zo rfl (c_ rfl (by rw [Mc]; rfl)) ?_
    obtain ⟨rv,h1,uI,s1⟩:=l_ (P:=Tryz.prog) (k:=4) (x:=.agg [.int .i64 pg,.int .i64 (i:Int),.bool false,.sl wid 0 bs.length J]) s iO nY oL rfl (by decide) (by decide) rfl rfl
    dsimp only [V.cells] at s1
    refine aA.any rfl rfl rfl (OpR.of (R:=fun v h'=>v=rv∧h'=h1) (om rfl uI) ⟨rfl,rfl⟩) ?_
    rintro v' h' ⟨rfl,rfl⟩
    obtain ⟨i1,kB,jF,wL⟩:=uH
    have iG:cs.length=acc.length*4:=by
     obtain ⟨a,b,q1,q2,q3⟩:=s1.at (k:=4) rfl
     exact oS q3
    obtain ⟨vi,h2,rZ,s2⟩:=iK (s1.ae [3,0]) iO kB nY jF (by omega) rfl (by decide) (by simp only [aS,bT]; omega)
    dsimp only [bringA,getA,aQ] at s2
    refine aA.any rfl rfl rfl (OpR.of (R:=fun v h'=>v=vi∧h'=h2) (mF rfl rfl rZ) ⟨rfl,rfl⟩) ?_
    rintro v' h' ⟨rfl,rfl⟩
    refine za rfl (zv (zr rfl (zk 2 rfl (zv ?_))))
    have s3:Sat _ (dg cs acc::.cx (.sl wid 0 bs.length J) bs::_):=s2.ae [4,2]
    have s4:=s3.two (C:=dg (cs++[.int .i64 pg,.int .i64 (i:Int),.bool false,.sl wid 0 bs.length J]) (acc++[⟨pg,i,false,bs⟩])) (aW.nF _ _) (aW.cx _ _) fun a b q1 q2=>xE q1 ⟨⟨⟨rfl,rfl,rfl⟩,q2⟩,aa⟩
    have s5:=(s4.ae [1,0,2,1]).del 4
    dsimp only [bringA,getA,aQ] at s5
    refine ih e' (acc++[⟨pg,(i:Int),false,bs⟩]) _ _ _ _ Q (by omega) z6 (by simp; omega) s5 (fun l hl => ?_) ⟨rfl,rfl,rfl,rfl,rfl,aa⟩ hq
    have:=I _ (.take i e' l Xl (by omega) (fun hx=>by rw [hb,hc] at hx; exact K4 (bk hx)) he3 hl)
    rw [Hq] at this
    rwa [bS]
  ·have hi5:i=512:=by omega
   refine WP.loop (WP.has hE (zK 5 rfl (zo rfl (aU rfl rfl rfl hlen) (zh rfl (af rfl rfl aT) (by simp <;> omega) ?_))))
   refine zk 2 rfl (WP.exit ?_)
   have:=I [] (.done _ (by omega))
   rw [bR] at this
   exact hq av cs acc _ _ this (by omega) s ⟨rfl,rfl,aa⟩
theorem O6 (hT:W told){pg:Int}(s:Sat h (X::Y::S))(hX:cT X (cU u cX))(hY:cT Y (cU v now))(J:cX.length=512)(jo:now.length=512):
  Call ⟨Tryz.prog,told⟩ 115 [.int .i64 pg,u,v] h fun w h'=>∃cs l,FP pg cX now l∧l.length≤512∧Sat h' (.arr 4 w cs::dg cs l::X::Y::S):=by
 refine Call.of_wp (hT.free _ rfl) Tryz.func115 rfl rfl (zK 13 rfl (WP.block ?_))
 refine RA hT (pg:=pg) hX hY J jo 500 12 [] .bw [] _ _ _ (by omega) (by omega) (by simp) ((s.gA aa).oF) (fun l hl=>hl) ⟨rfl,rfl,rfl,rfl,rfl,aa⟩ (fun vi cs' l E' h' hr Ij s' jd => ?_)
 have s:=s'
 have hlen:=s.wN (j1:=0) (j2:=1) rfl rfl iO
 have Dn:=s.jb (j:=0) rfl
 refine WP.has jd (zK 4 rfl (zo rfl (aU rfl rfl rfl hlen) ?_))
 by_cases I:l=[]
 ·skip
  refine zt rfl (af rfl rfl eA) (by subst I; rfl) ?_
  refine zk 5 rfl (zo rfl (c_ rfl (by rw [Mc]; rfl)) ?_)
  obtain ⟨rv,h1,uI,s1⟩:=l_ (P:=Tryz.prog) (k:=4) (x:=.agg [.int .i64 pg,.int .i64 0,.bool false,.bw]) s iO nY oL rfl (by decide) (by decide) rfl rfl
  dsimp only [V.cells] at s1
  refine aA.any rfl rfl rfl (OpR.of (R:=fun v h'=>v=rv∧h'=h1) (om rfl uI) ⟨rfl,rfl⟩) ?_
  rintro v' h' ⟨rfl,rfl⟩
  refine zk 2 rfl (WP.ret ⟨aa,_,rfl,?_⟩)
  refine ⟨[.int .i64 pg,.int .i64 0,.bool false,.bw],[⟨pg,0,false,[]⟩],⟨l,hr,by rw [aj I]⟩,by simp,?_⟩
  have s2:=(s1.del 2).del 1
  have s3:Sat _ (.cx .bw []::.arr 4 v' _::X::Y::S):=s2.rI
  have s4:=s3.hO (B:=dg [.int .i64 pg,.int .i64 0,.bool false,.bw] [⟨pg,0,false,[]⟩]) fun a b q=>⟨⟨⟨rfl,rfl,rfl⟩,q⟩,aa⟩
  exact s4.ae [1,0]
 ·skip
  refine zh rfl (af rfl rfl eA) (by cases l with | nil=>exact absurd rfl I | cons _ _=>simp; omega) ?_
  exact zk 8 rfl (WP.ret ⟨aa,_,rfl,_,l,⟨l,hr,by rw [ah I]⟩,Ij,s⟩)
end
def fJ (m:List Fm): Nat:=(m.map (·.changed)).count true
theorem m7 {f g:Fm}: ∀ {m:List Fm} {i:Nat},m[i]?=some f→fJ (m.set i g)+f.changed.toNat=fJ m+g.changed.toNat:=by
 intro m
 induction m with
 | nil=>intro i h; simp at h
 | cons x m I =>
  intro i h
  cases i with
  | zero =>
   simp at h
   subst h
   simp only [fJ,List.set_cons_zero,b6,List.count_cons]
   cases x.changed <;> cases g.changed <;> simp
  | succ i =>
   rw [kK] at h
   have:=I h
   simp only [fJ,Ax,b6,List.count_cons] at this ⊢
   omega
theorem Dp {g:Fm}(I:g.changed=false): ∀ {m:List Fm} {i:Nat},fJ (m.set i g)≤fJ m:=by
 intro m i
 cases h:m[i]? with
 | none =>
  have:m.length≤i:=by simpa using h
  rw [List.set_eq_of_length_le this]
  exact aD _
 | some f =>
  have:=m7 (g:=g) h
  rw [I] at this
  simp only [Bool.toNat_false] at this
  omega
def cn (ε:aI): Nat:=ε.2.2.waiting.length+fJ ε.1.ak
theorem rA {ε:aI}: ε.2.2.waiting.length≤cn ε:=Eb _ _
theorem fX.count {π I:Pl}(J:fX π I): fJ I.ak=fJ π.ak:=by
 have:I.ak.map (·.changed)=π.ak.map (·.changed):=by
  refine qF fun i => ?_
  rw [mV,mV]
  cases h:π.ak[i]? with
  | none =>
   have h1:π.ak.length≤i:=by simpa using h
   have:I.ak[i]?=none:=by simp [J.len,h1]
   rw [this]
  | some f =>
   obtain ⟨t,ht⟩:=J.get i f h
   rw [ht]; rfl
 simp only [fJ,this]
theorem Ik {δ:Dk}{n:Int}{b:List Nat}(h:(δ.bK n b).1≠0): (δ.bK n b).2.waiting=δ.waiting:=by
 unfold Dk.bK at h ⊢
 split
 ·rfl
 ·rename_i I
  rw [ah I] at h
  split
  ·rfl
  ·rename_i J
   rw [ah J] at h
   split
   ·rfl
   ·rename_i h3
    rw [ah h3] at h
    exact absurd rfl h
theorem RB {ε:aI}{i:Nat}: cn (outF ε i).2≤cn ε:=by
 unfold outF
 split
 ·exact aD _
 ·rename_i f J
  split
  ·exact aD _
  ·rename_i I
   have I:f.changed=true:=by cases h:f.changed <;> simp [h] at I ⊢
   split
   ·exact aD _
   ·split
    ·simp only [cn,nG]; exact aD _
    ·split
     ·rename_i hw
      simp only [cn,Ik hw,nG]; exact aD _
     ·have h1:=JL (δ:=(bE ε.2 (dn f.b 4 8)).2.2) (n:=f.aL) (b:=f.b)
      rw [nG] at h1
      have h2:=m7 (g:={ f with changed:=false }) J
      simp only [I,Bool.toNat_true,Bool.toNat_false] at h2
      simp only [cn]
      omega
theorem z7 {π:Pl}{i:Nat}{f:Fm}: fJ (dF π i f).ak≤fJ π.ak:=Dp rfl
theorem fY.cn {ε ε':aI}{n e:Int}{b:List Nat}(hr:fY ε n e b ε'): Am.cn ε'≤Am.cn ε:=by
 have rB:∀ {I:Pl},fX ε.1 I→∀i,Am.cn (outF (I,ε.2) i).2≤Am.cn ε:=fun {I} J i=>by
  have:=RB (ε:=(I,ε.2)) (i:=i)
  refine cC this ?_
  simp only [Am.cn,J.count]
  exact aD _
 cases hr with
 | arg _=>exact aD _
 | Dj i f h1 h2 hl hf =>
  have h2:=m7 (g:={ f with eY:=true,pins:=f.pins+1 }) hf
  simp only [Am.cn] at h2 ⊢
  omega
 | out I i f h1 h2 hl J hf hh he=>exact rB J i
 | read I i f h1 h2 hl J hf hh he hr=>exact cC (vM z7 _) (rB J i)
 | bad I i f h1 h2 hl J hf hh he hr hc=>exact cC (vM z7 _) (rB J i)
 | load I i f h1 h2 hl J hf hh he hr hc=>exact cC (vM (cC (Dp rfl) z7) _) (rB J i)
theorem Dq {π:Pl}{n:Int}: fJ (unpinF π n).2.ak=fJ π.ak:=by
 unfold unpinF
 split
 ·rfl
 ·split
  ·rfl
  ·rename_i i hi f I
   have J:=m7 (g:={ f with pins:=f.pins-1 }) I
   simp only at J ⊢
   omega
theorem nk.cn {ε ε':aI}{n e:Int}{b:List Nat}(I:nk ε n e b ε'): Am.cn ε'≤Am.cn ε:=by
 cases I with
 | dead _=>exact aD _
 | iP e b ε' J I he=>exact I.cn
 | sO b ε' J I he=>have:=I.cn; simp only [Am.cn,Dq] at this ⊢; exact this
 | read b ε' J I he=>have:=I.cn; simp only [Am.cn,Dq] at this ⊢; exact this
theorem pL.cn {ε ε':aI}{now:List (Int×List Nat)}{b_:Bool}{n e:Int}{b:List Nat}(I:pL ε now b_ n e b ε'): Am.cn ε'≤Am.cn ε:=by
 cases I with
 | arg _=>exact aD _
 | b_ _ _ _=>exact aD _
 | own _ _ _ _ _=>exact aD _
 | read e b ε' J h2 h3 hl I=>exact I.cn
theorem uF.cn {ε ε':aI}{now cS:List (Int×List Nat)}{b_:Bool}{n e:Int}{b:List Nat}(I:uF ε now b_ n b e cS ε'): Am.cn ε'≤Am.cn ε:=by
 cases I with
 | may e c ε' I he=>exact I.cn
 | bad c ε' I J=>exact I.cn
 | done c ε' I J=>exact I.cn
inductive js (now:List (Int×List Nat)): List Int→aI→Int→List cq→aI→Prop where
 | nil (ε:aI):js now [] ε 0 [] ε
 | err (n:Int) (l:List Int) (ε:aI) (e:Int) (b:List Nat) (ε':aI) (hr:nk ε n e b ε') (he:e≠0):js now (n::l) ε e [] ε'
 | part (n:Int) (l:List Int) (ε:aI) (cX b:List Nat) (ε':aI) (c:List cq) (e:Int) (cs:List cq) (kE:aI) (hr:nk ε n 0 cX ε') (hb:lookL n now=some b) (hd:(lookL n ε'.1.bI).isSome=true) (hc:FP n cX b c) (hl:c.length≤512) (ht:js now l ε' e cs kE):js now (n::l) ε e (c++cs) kE
 | whole (n:Int) (l:List Int) (ε:aI) (cX b:List Nat) (ε':aI) (e:Int) (cs:List cq) (kE:aI) (hr:nk ε n 0 cX ε') (hb:lookL n now=some b) (hd:(lookL n ε'.1.bI).isSome=false) (ht:js now l ε' e cs kE):js now (n::l) ε e (⟨n,0,true,b⟩::cs) kE
theorem js.mj {now:List (Int×List Nat)}{l:List Int}{ε ε':aI}{e:Int}{cs:List cq}(I:js now l ε e cs ε')(h:jk ε): jk ε':=by
 induction I with
 | nil ε=>exact h
 | err n l ε e b ε' I he=>exact I.mj h
 | part n l ε cX b ε' c e cs J I hb hd hc hl ht ih=>exact ih (I.mj h)
 | whole n l ε cX b ε' e cs J I hb hd ht ih=>exact ih (I.mj h)
theorem js.cn {now:List (Int×List Nat)}{l:List Int}{ε ε':aI}{e:Int}{cs:List cq}(I:js now l ε e cs ε'): Am.cn ε'≤Am.cn ε:=by
 induction I with
 | nil ε=>exact aD _
 | err n l ε e b ε' I he=>exact I.cn
 | part n l ε cX b ε' c e cs J I hb hd hc hl ht ih=>exact cC ih I.cn
 | whole n l ε cX b ε' e cs J I hb hd ht ih=>exact cC ih I.cn
theorem uJ {P:Program}{E:List (Nat×V)}{h:H}{a b:Nat}{v w:V}(I:look E a=some v)(J:look E b=some w): iI P E h [.tmp a,.tmp b]=some (.bj [v,w]):=by simp only [iI,mapO,resE,I,J]
section
variable {told:cQ} {h:H} {S:List au} {X Y:au} {r k q p ct a g aH:Nat} {op v x u wh di:V} {l b cX data:List Nat} {now:List (Int×List Nat)} {b_:Bool} {ε:aI}
theorem xK (I:W told){id:Nat}(s:Sat h S): Call ⟨Tryz.prog,told⟩ 62 [.map id] h fun v h'=>∃b,v=.fn (.func 120) [] [.ptr b 0]∧Sat h' (pt b (.cells 1 [.map id] false)::S):=by
 refine Call.of_wp (I.free _ rfl) Tryz.func62 rfl rfl (zg rfl ?_)
 refine aA.b5 s rfl rfl rfl (fe rfl rfl) (fun J h s => ?_)
 exact zk 4 rfl (zo rfl (GD rfl rfl) (zk 2 rfl (WP.ret ⟨aa,_,rfl,_,rfl,s⟩)))
theorem O7 (I:W told)(s:Sat h (fZ g a now b_::S))(hm:now.length≤1048576)(hk:∀n∈now.map (·.1),(Lit.int .i64 n).wf=true):
  Call ⟨Tryz.prog,told⟩ 112 [.ptr g 0] h fun v h'=>Sat h' (.arr 1 v (gj (bU now))::fZ g a now b_::S):=by
 obtain ⟨nv,s⟩:=eG.1 s
 obtain ⟨J,rfl⟩:=HI s (j:=1) rfl
 refine Call.of_wp (I.free _ rfl) Tryz.func112 rfl rfl (zK 8 rfl (zf rfl (q_ _ _) (zl rfl (s.ld (k:=0) rfl jS rfl) (zc rfl (xK I s) ?_))))
 rintro v h ⟨b,rfl,s⟩
 refine zc rfl (vb I (s.ae [0,1]) (by decide) hm hk) ?_
 intro kv h s
 exact zk 2 rfl (WP.ret ⟨aa,_,rfl,(eG.2 ⟨.map J,(s.ae [3,2,0]).del 3⟩).ae [1]⟩)
noncomputable def cgL : Code:=dB [1,1,0,1,0,0] ((Tryz.f58.body).getD .skip)
theorem Il (hT:W told){ks:List Int}{kv:V}(Z5:ks.length≤65536)(Dr:∀n∈ks,(lookL n now).isSome=true)(uE:∀e∈now,e.2.length=512): ∀(j i:Nat) (acc:List cq) (av:V) (cs:List V) (ε:aI) (h:H) (E:List (Nat×V)) (Q:Ex→List (Nat×V)→H→Prop),i+j=ks.length →
  jk ε→cn ε≤268435456→acc.length≤512*i →
  Sat h (.arr 4 av cs::dg cs acc::fZ g a now b_::dV a p q r op data aH::eF r p q ε.1::b8 q p ε.2.1::aR p ε.2.2::.arr 1 kv (gj ks)::S) →
  Has E [(0,.ptr g 0),(4,av),(13,kv),(14,.int .i64 ks.length),(15,.int .i64 i)] →
  (∀e c ε' E' h',js now (ks.drop i) ε e c ε'→e≠0→look E' 2=some .bw→look E' 3=some (.int .i64 e)→Sat h' (fZ g a now b_::dV a p q r op data aH::eF r p q ε'.1::b8 q p ε'.2.1::aR p ε'.2.2::S)→Q .ret E' h') →
  (∀c ε' E' h' vi cs',js now (ks.drop i) ε 0 c ε'→acc.length+c.length≤512*ks.length→Has E' [(4,vi)]→Sat h' (.arr 4 vi cs'::dg cs' (acc++c)::fZ g a now b_::dV a p q r op data aH::eF r p q ε'.1::b8 q p ε'.2.1::aR p ε'.2.2::S)→Q (.exit 0) E' h') →
  WP ⟨Tryz.prog,told⟩ 65 (.loop cgL) E h Q:=by
 intro j
 induction j with
 | zero =>
  intro i acc av cs ε h E Q hj mo hw Xk s hE hr hx
  refine WP.loop (WP.has hE (zg rfl (zh rfl (af rfl rfl aT) (by simp <;> omega) ?_)))
  refine zk 3 rfl (WP.exit ?_)
  rw [je (by omega)] at hx
  have s1:=s.del 7
  dsimp only [aQ] at s1
  refine hx [] ε _ _ av cs (.nil ε) (by simp; omega) ⟨rfl,aa⟩ ?_
  rw [bR]
  exact s1
 | succ j ih =>
  intro i acc av cs ε h E Q hj mo hw Xk s hE hr hx
  have hn:ks[i]?=some (ks[i]'(by omega)):=bf _
  have xh:ks[i]'(by omega)∈ks:=qJ _
  have qh:ks.drop i=ks[i]'(by omega)::ks.drop (i+1):=oW (by omega)
  generalize (ks[i]'(by omega))=n at hn xh qh
  have hc:(gj ks)[i]?=some (.int .i64 n):=by simp [gj,hn]
  obtain ⟨b,hb⟩:=Option.isSome_iff_exists.1 (Dr n xh)
  have GM:=uE _ (gU hb)
  simp only at GM
  rw [qh] at hr hx
  obtain ⟨id,off,e1,e2⟩:=mc (P:=Tryz.prog) s (k:=7) rfl hc eB kW
  refine WP.loop (WP.has hE (zg rfl (zt rfl (af rfl rfl aT) (by simp <;> omega) ?_)))
  refine zk 5 rfl (WP.block (zg rfl (zo rfl (dr (r:=.ptr id off) rfl rfl e1) (zl rfl (e2 _ dL) ?_))))
  obtain ⟨nv,s⟩:=eG.1 (s.ae [2])
  dsimp only [bringA,getA,aQ] at s
  refine zk 6 rfl (zf rfl (pq _ _) (zl rfl (s.ld (k:=0) rfl y7 rfl) (zm rfl (zc rfl (Cc (n:=n) hT (s.ae [4,4,4,4]) mo.ok mo.pins (cC rA hw)) ?_))))
  rintro v h ⟨e,w,ε',J,(⟨he,rfl,s⟩ | ⟨rfl,u,rfl,s⟩)⟩
  ·dsimp only [bringA,getA,aQ] at s
   refine zk 10 rfl (zt rfl (af rfl rfl aN) (by simp; exact he) ?_)
   refine zk 8 rfl (WP.ret (hr e [] ε' _ _ (.err n _ ε e w ε' J he) he rfl rfl ?_))
   have s:=eG.2 ⟨nv,s.ae [4,4]⟩
   dsimp only [bringA,getA,aQ] at s
   exact ((s.del 7).del 6).del 5
  ·dsimp only [bringA,getA,aQ] at s
   have K5:=J.mj mo
   have ud:=cC J.cn hw
   have hlen:=J.len mo
   refine zk 10 rfl (zh rfl (af rfl rfl aN) (rfl) ?_)
   have s:=s.fU
   have s:=s.ae [5,5,1,1,1,1,1,1,1,0]
   dsimp only [bringA,getA,aQ] at s
   rcases mz (n:=n) (fun _ _=>aW.cx _ _) (s.ae [1]) lp bD oP with ⟨g1,g2,_⟩ | ⟨nw,b',g1,_,g2,s2⟩
   ·rw [hb] at g1; cases g1
   rw [hb] at g1
   have:=bk g1
   subst this
   refine zk 7 rfl (zf rfl (q_ _ _) (zl rfl (s.ld (k:=0) rfl jS rfl) (zm rfl (zo rfl (iJ rfl rfl g2) ?_))))
   obtain ⟨dv,s⟩:=cP.1 (s2.ae [3])
   dsimp only [bringA,getA,aQ] at s
   have s:=s.ae [4]
   dsimp only [bringA,getA,aQ] at s
   refine zk 6 rfl (zf rfl (pq _ _) (zl rfl (s.ld (k:=0) rfl y7 rfl) (zn rfl (zf rfl (tA _ _) (zl rfl (s.ld (k:=1) rfl AT rfl) (zm rfl (zc rfl (Xa (n:=n) hT (s.ae [5])) ?_)))))))
   rintro v h ⟨rfl,s⟩
   dsimp only [bringA,getA,aQ] at s
   refine zk 10 rfl ?_
   cases hd:(lookL n ε'.1.bI).isSome with
   | true =>
    refine zK 6 rfl (zc rfl (O6 hT (u:=u) (v:=nw) (pg:=n) (s.ae [11,4]) (dy _ _) (dy _ _) hlen GM) ?_)
    rintro rv h ⟨Xn,c,hc,iG,s⟩
    dsimp only [bringA,getA,aQ] at s
    obtain ⟨i1,kB,jF,wL⟩:=uH
    have RC:cs.length=acc.length*4:=by
     obtain ⟨a,b,q1,q2,q3⟩:=s.at (k:=12) rfl
     exact oS q3
    have ab8:Xn.length=c.length*4:=by
     obtain ⟨a,b,q1,q2,q3⟩:=s.at (k:=1) rfl
     exact oS q3
    obtain ⟨vi,h2,rZ,s2⟩:=iK (s.ae [11,0]) iO kB nY jF (by omega) rfl (by decide) (by omega)
    dsimp only [bringA,getA,aQ] at s2
    refine aA.any rfl rfl rfl (OpR.of (R:=fun v h'=>v=vi∧h'=h2) (mF rfl rfl rZ) ⟨rfl,rfl⟩) ?_
    rintro v' h' ⟨rfl,rfl⟩
    refine za rfl (zv (zr rfl (zb rfl (by exact br (aC (by omega) (by omega))) ?_)))
    refine zm rfl (zv ?_)
    have s3:Sat _ (dg cs acc::dg Xn c::_):=s2.ae [12,2]
    have s4:=s3.two (C:=dg (cs++Xn) (acc++c)) (aW.nF _ _) (aW.nF _ _) fun a b q1 q2=>xE q1 q2
    dsimp only [bringA,getA,aQ] at s4
    have s5:=cP.2 ⟨dv,s4.ae [7,7]⟩
    dsimp only [bringA,getA,aQ] at s5
    have s6:=eG.2 ⟨nv,s5.ae [7,7]⟩
    dsimp only [bringA,getA,aQ] at s6
    have s7:=(((s6.ae [3,2,0,0,3,3,3,3]).del 10).del 9).del 8
    dsimp only [bringA,getA,aQ] at s7
    refine ih (i+1) (acc++c) _ _ ε' _ _ Q (by omega) K5 ud (by simp; omega) s7 ⟨rfl,rfl,rfl,rfl,rfl,aa⟩ (fun e c' I E' h' ht he l2 l3 s' => ?_) (fun c' I E' h' RD yB ht hl jd s' => ?_)
    ·exact hr e _ I E' h' (.part n _ ε w b ε' c e c' I J hb hd hc iG ht) he l2 l3 s'
    ·refine hx (c++c') I E' h' RD yB (.part n _ ε w b ε' c 0 c' I J hb hd hc iG ht) (by simp at hl ⊢; omega) jd ?_
     rw [←bS]
     exact s'
   | false =>
    refine zK 5 rfl (zc rfl (mH hT (s.ae [4]) (dy _ _) (by omega)) ?_)
    intro cw h s
    dsimp only [bringA,getA,aQ] at s
    obtain ⟨wid,_,RE,_,rfl,_⟩:=s.fI (by omega)
    have s:=s.fU
    refine zo rfl (c_ rfl (by rw [Mc]; rfl)) ?_
    obtain ⟨rv,h1,uI,s1⟩:=l_ (P:=Tryz.prog) (k:=4) (x:=.agg [.int .i64 n,.int .i64 0,.bool true,.sl wid 0 b.length RE]) s iO nY oL rfl (by decide) (by decide) rfl rfl
    dsimp only [V.cells] at s1
    refine aA.any rfl rfl rfl (OpR.of (R:=fun v h'=>v=rv∧h'=h1) (om rfl uI) ⟨rfl,rfl⟩) ?_
    rintro v' h' ⟨rfl,rfl⟩
    obtain ⟨i1,kB,jF,wL⟩:=uH
    have RC:cs.length=acc.length*4:=by
     obtain ⟨a,b,q1,q2,q3⟩:=s1.at (k:=11) rfl
     exact oS q3
    obtain ⟨vi,h2,rZ,s2⟩:=iK (s1.ae [10,0]) iO kB nY jF (by omega) rfl (by decide) (by simp only [aS,bT]; omega)
    dsimp only [bringA,getA,aQ] at s2
    refine aA.any rfl rfl rfl (OpR.of (R:=fun v h'=>v=vi∧h'=h2) (mF rfl rfl rZ) ⟨rfl,rfl⟩) ?_
    rintro v' h' ⟨rfl,rfl⟩
    refine za rfl (zv (zr rfl (zb rfl (by exact br (aC (by omega) (by omega))) ?_)))
    refine zm rfl (zv ?_)
    have s3:Sat _ (dg cs acc::.cx (.sl wid 0 b.length RE) b::_):=s2.ae [11,2]
    have s4:=s3.two (C:=dg (cs++[.int .i64 n,.int .i64 0,.bool true,.sl wid 0 b.length RE]) (acc++[⟨n,0,true,b⟩])) (aW.nF _ _) (aW.cx _ _) fun a b q1 q2=>xE q1 ⟨⟨⟨rfl,rfl,rfl⟩,q2⟩,aa⟩
    have s5:=cP.2 ⟨dv,s4.ae [6,6]⟩
    have s6:=eG.2 ⟨nv,s5.ae [6,6]⟩
    have s7:=(((s6.ae [3,2,0,0,2,2,2,2]).del 10).del 9).del 8
    dsimp only [bringA,getA,aQ] at s7
    refine ih (i+1) (acc++[⟨n,0,true,b⟩]) _ _ ε' _ _ Q (by omega) K5 ud (by simp; omega) s7 ⟨rfl,rfl,rfl,rfl,rfl,aa⟩ (fun e c' I E' h' ht he l2 l3 s' => ?_) (fun c' I E' h' RD yB ht hl jd s' => ?_)
    ·exact hr e _ I E' h' (.whole n _ ε w b ε' e c' I J hb hd ht) he l2 l3 s'
    ·refine hx (⟨n,0,true,b⟩::c') I E' h' RD yB (.whole n _ ε w b ε' 0 c' I J hb hd ht) (by simp at hl ⊢; omega) jd ?_
     rw [bS] at s'
     exact s'
theorem MD (hT:W told)(s:Sat h (fZ g a now b_::dV a p q r op data aH::eF r p q ε.1::b8 q p ε.2.1::aR p ε.2.2::S))(mo:jk ε)(hw:cn ε≤268435456)(I:∀e∈now,e.2.length=512)(hm:now.length≤65536)(hk:∀n∈now.map (·.1),(Lit.int .i64 n).wf=true):
  Call ⟨Tryz.prog,told⟩ 58 [.ptr g 0] h fun v h'=>∃e c ε',js now (bU now) ε e c ε' ∧
   ((e≠0∧v=.bj [.bw,.int .i64 e]∧Sat h' (fZ g a now b_::dV a p q r op data aH::eF r p q ε'.1::b8 q p ε'.2.1::aR p ε'.2.2::S)) ∨
    (e=0∧c.length≤33554432∧∃av cs,v=.bj [av,.int .i64 0]∧Sat h' (.arr 4 av cs::dg cs c::fZ g a now b_::dV a p q r op data aH::eF r p q ε'.1::b8 q p ε'.2.1::aR p ε'.2.2::S))):=by
 have hl:(bU now).length=now.length:=by rw [bU,(fc _).length_eq,fS]
 refine Call.of_wp (hT.free _ rfl) Tryz.func58 rfl rfl (zK 13 rfl (zc rfl (O7 hT s (by omega) hk) ?_))
 intro kv h s
 refine zo rfl (aU rfl rfl rfl (s.iB (n:=(bU now).length) (j:=0) rfl (by simp [gj]) (by decide) eB)) ?_
 refine zk 2 rfl (WP.block ?_)
 have s1:=(((s.gA aa).oF (k:=4)).hO fun a b q=>q).ae [0,0,1,1,1,1,1,0]
 refine Il hT (ks:=bU now) (now:=now) (by omega) (fun n hn => ?_) I (bU now).length 0 [] .bw [] ε _ _ _ (by omega) mo hw (by simp) s1 ⟨rfl,rfl,rfl,rfl,rfl,aa⟩ (fun e c ε' E' h' J he l2 l3 s' => ?_) (fun c ε' E' h' av cs J iG jd s' => ?_)
 ·have:n∈now.map (·.1):=(fc _).mem_iff.1 hn
  cases hq:lookL n now with
  | some _=>rfl
  | none=>exact absurd this (j8.1 hq)
 ·rw [eu] at J
  exact ⟨aa,_,uJ l2 l3,e,c,ε',J,.inl ⟨he,rfl,s'⟩⟩
 ·rw [eu] at J
  have s:=s'
  exact WP.has jd (zK 6 rfl (WP.ret ⟨aa,_,rfl,0,c,ε',J,.inr ⟨rfl,by simp at iG; omega,_,_,rfl,s⟩⟩))
end
theorem z8 {b:List Nat}{n:Nat}(I:b7 b=true): (cM b n).length=512:=by
 have J:=xD (n:=n) (eX I)
 rw [cM,cz (by rw [cy]; omega),J]
def jy (π:Pl)(n:Int)(b:List Nat)(aK:Nat): Int×Pl :=
 (if (lD π n b aK).1=0 then (unpinF (lD π n b aK).2 n).1 else (lD π n b aK).1,(unpinF (lD π n b aK).2 n).2)
def uK (π:Pl)(n:Int)(i:Nat)(f:Fm)(b:List Nat)(aK:Nat): Pl :=
 { π with ak:=π.ak.set i { f with b:=cM b aK,changed:=true,pins:=0 },bI:=cB n (fQ π n aK,true) π.bI }
theorem xL {π:Pl}{n:Int}{i:Nat}{f:Fm}{b:List Nat}{aK:Nat}(J:lookL n π.bM=some (i:Int))(I:π.ak[i]?=some f)(hp:f.pins=1)(hg:b7 b=true): jy π n b aK=(0,uK π n i f b aK):=by
 have h1:=(uD J I hp).1
 have hi:=(List.getElem?_eq_some_iff.1 I).1
 have e1:lD π n b aK=(0,{ π with ak:=π.ak.set i { f with b:=cM b aK,changed:=true },bI:=cB n (fQ π n aK,true) π.bI }):=by
  simp only [lD,h1,I,hg,Bool.true_eq_false,bN]
 have e2:=(uD (π:={ π with ak:=π.ak.set i { f with b:=cM b aK,changed:=true },bI:=cB n (fQ π n aK,true) π.bI }) (n:=n) (f:={ f with b:=cM b aK,changed:=true }) J (gw hi) hp).2
 simp only [jy,e1,e2,bO,AE]
 rfl
theorem O8 {π:Pl}{n:Int}{i:Nat}{f:Fm}{b:List Nat}{aK:Nat}(J:lookL n π.bM=some (i:Int))(I:π.ak[i]?=some f)(hp:f.pins=1)(hg:b7 b=false): jy π n b aK=(4,{ π with ak:=π.ak.set i { f with pins:=0 } }):=by
 have h1:=(uD J I hp).1
 have e1:lD π n b aK=(4,π):=by simp only [lD,h1,I,hg,bO]
 have e2:=(uD J I hp).2
 simp only [jy,e1,e2]
 rfl
theorem UX {π:Pl}{n:Int}{b:List Nat}{aK:Nat}(h:π.Ok): (lD π n b aK).2.Ok:=by
 unfold lD
 split
 ·exact h
 ·split
  ·exact h
  ·rename_i f J
   have hm:=bC J
   split
   ·exact h
   ·rename_i I
    have I:b7 b=true:=by simpa using I
    exact h.set h.bM (by simp only [z8 I]; omega) (h.pins f hm)
theorem fY.put {ε ε':aI}{n:Int}{b0 b:List Nat}{aK:Nat}(hr:fY ε n 0 b0 ε')(h:jk ε): jk ((jy ε'.1 n b aK).2,ε'.2)∧Am.cn ((jy ε'.1 n b aK).2,ε'.2)≤Am.cn ε+1∧(b7 b=true→(jy ε'.1 n b aK).1=0):=by
 have I:=hr.ok h.ok h.pins
 have J:=(hr.full h.ok.dk h.full).1
 obtain ⟨i,f,h1,h2,h3,h4,h5⟩:=hr.at h.pins
 have hm:=bC h2
 have z_:=hr.cn
 cases hg:b7 b with
 | true =>
  rw [xL h1 h2 h3 hg]
  refine ⟨⟨⟨I.pl.set I.pl.bM (by simp only [z8 hg]; omega) (by simp),I.lg,I.dk⟩,h5 _ rfl,J.set h2 rfl fun _=>z8 hg⟩,?_,fun _=>rfl⟩
  have h6:=m7 (g:={ f with b:=cM b aK,changed:=true,pins:=0 }) h2
  simp only [Bool.toNat_true] at h6
  simp only [Am.cn,uK] at z_ ⊢
  omega
 | false =>
  rw [O8 h1 h2 h3 hg]
  refine ⟨⟨⟨I.pl.set I.pl.bM (I.pl.len f hm) (by simp),I.lg,I.dk⟩,h5 _ rfl,J.set h2 rfl fun hl=>hl⟩,?_,fun h=>by cases h⟩
  have h6:=m7 (g:={ f with pins:=0 }) h2
  simp only [Am.cn] at z_ h6 ⊢
  omega
inductive qm (now:List (Int×List Nat))(aK:Nat): List Int→aI→Int→aI→Prop where
 | nil (ε:aI):qm now aK [] ε 0 ε
 | iP (n:Int) (l:List Int) (ε:aI) (e:Int) (b:List Nat) (ε':aI) (hr:fY ε n e b ε') (he:e≠0):qm now aK (n::l) ε e ε'
 | bad (n:Int) (l:List Int) (ε:aI) (b0 b:List Nat) (ε':aI) (hr:fY ε n 0 b0 ε') (hb:lookL n now=some b) (he:(jy ε'.1 n b aK).1≠0):qm now aK (n::l) ε (jy ε'.1 n b aK).1 ((jy ε'.1 n b aK).2,ε'.2)
 | put (n:Int) (l:List Int) (ε:aI) (b0 b:List Nat) (ε':aI) (e:Int) (kE:aI) (hr:fY ε n 0 b0 ε') (hb:lookL n now=some b) (he:(jy ε'.1 n b aK).1=0) (ht:qm now aK l ((jy ε'.1 n b aK).2,ε'.2) e kE):qm now aK (n::l) ε e kE
theorem qm.mj {now:List (Int×List Nat)}{aK:Nat}{l:List Int}{ε ε':aI}{e:Int}(I:qm now aK l ε e ε')(h:jk ε): jk ε':=by
 induction I with
 | nil ε=>exact h
 | iP n l ε e b ε' I he=>exact ⟨I.ok h.ok h.pins,I.K3 he h.pins,(I.full h.ok.dk h.full).1⟩
 | bad n l ε b0 b ε' I hb he=>exact (I.put h).1
 | put n l ε b0 b ε' e J I hb he ht ih=>exact ih (I.put h).1
theorem qm.cn {now:List (Int×List Nat)}{aK:Nat}{l:List Int}{ε ε':aI}{e:Int}(I:qm now aK l ε e ε')(h:jk ε): Am.cn ε'≤Am.cn ε+l.length:=by
 induction I with
 | nil ε=>exact aD _
 | iP n l ε e b ε' I he=>have:=I.cn; omega
 | bad n l ε b0 b ε' I hb he=>have:=(I.put (b:=b) (aK:=aK) h).2.1; simp only [aS]; omega
 | put n l ε b0 b ε' e J I hb he ht ih=>have h1:=ih (I.put h).1; have:=(I.put (b:=b) (aK:=aK) h).2.1; simp only [aS]; omega
theorem Y0 {h:H}{id c:Nat}{es:cR}{n:Int}{u:V}{t kt et:TypeId}{k:IntKind}{z:V}(J:T.get h.tr id=some (.map (es.map gO) c))(he:lookE n es=some u)(hu:Tryz.prog.underlying t=some (.map kt et))(hk:Tryz.prog.underlying kt=some (.int k))(hz:zeroT Tryz.prog et=some z):
  eV Tryz.prog h t (.map id) (.int .i64 n) false=some u:=by
 have hi:=pH (n:=n) es 0
 simp only [eV,lookupV,hu,hk,hz,J,keyBeq,dN,ag,tF]
 cases I:idxE n es 0 with
 | none=>rw [I] at hi; rw [he] at hi; cases hi
 | some q=>rw [I] at hi; rw [he] at hi; obtain ⟨j,w⟩:=q; have:=bk hi; simp only at this; subst this; rfl
section
variable {told:cQ} {h:H} {S:List au} {X Y:au} {r k q p ct a g aH:Nat} {op v x u wh di:V} {l b cX data:List Nat} {now:List (Int×List Nat)} {b_:Bool} {ε:aI}
noncomputable def dnL : Code:=dB [1,1,1,1,1,1,1,1,0,1,0,0] ((Tryz.f26.body).getD .skip)
theorem O9 (hT:W told){ks:List Int}{kv dv:V}{aK wO c:Nat}{es:cR}(Z5:ks.length≤65536)(Dr:∀n∈ks,(lookL n now).isSome=true)(uE:∀e∈now,e.2.length=512): ∀(j i:Nat) (ε:aI) (h:H) (E:List (Nat×V)) (Q:Ex→List (Nat×V)→H→Prop),i+j=ks.length →
  jk ε→cn ε+j≤268435456 →
  Sat h (pt g (.cells 3 [.ptr a 0,.map wO,.bool b_] false)::gE wO es c::eW (fun v b=>.cx v b) es now::pt a (.cells 6 (r6 a p q r op dv aH) false)::eF r p q ε.1::b8 q p ε.2.1::aR p ε.2.2::.arr 1 kv (gj ks)::S) →
  Has E [(0,.ptr g 0),(6,.ptr a 0),(8,.int .u64 (aK:Int)),(73,kv),(74,.int .i64 ks.length),(75,.int .i64 i)] →
  (∀e ε' E' h',qm now aK (ks.drop i) ε e ε'→e≠0→look E' 4=some (.int .u64 0)→look E' 5=some (.int .i64 e)→Sat h' (pt g (.cells 3 [.ptr a 0,.map wO,.bool b_] false)::gE wO es c::eW (fun v b=>.cx v b) es now::pt a (.cells 6 (r6 a p q r op dv aH) false)::eF r p q ε'.1::b8 q p ε'.2.1::aR p ε'.2.2::S)→Q .ret E' h') →
  (∀ε' E' h',qm now aK (ks.drop i) ε 0 ε'→Has E' [(8,.int .u64 (aK:Int))]→Sat h' (pt g (.cells 3 [.ptr a 0,.map wO,.bool b_] false)::gE wO es c::eW (fun v b=>.cx v b) es now::pt a (.cells 6 (r6 a p q r op dv aH) false)::eF r p q ε'.1::b8 q p ε'.2.1::aR p ε'.2.2::S)→Q (.exit 1) E' h') →
  WP ⟨Tryz.prog,told⟩ 118 (.loop dnL) E h Q:=by
 intro j
 induction j with
 | zero =>
  intro i ε h E Q hj I hw s hE hr hx
  refine WP.loop (WP.has hE (zg rfl (zh rfl (af rfl rfl aT) (by simp <;> omega) ?_)))
  refine zk 3 rfl (WP.exit ?_)
  rw [je (by omega)] at hx
  exact hx ε _ _ (.nil ε) ⟨rfl,aa⟩ (s.del 7)
 | succ j ih =>
  intro i ε h E Q hj I hw s hE hr hx
  have hn:ks[i]?=some (ks[i]'(by omega)):=bf _
  have xh:ks[i]'(by omega)∈ks:=qJ _
  have qh:ks.drop i=ks[i]'(by omega)::ks.drop (i+1):=oW (by omega)
  generalize (ks[i]'(by omega))=n at hn xh qh
  have hc:(gj ks)[i]?=some (.int .i64 n):=by simp [gj,hn]
  obtain ⟨b,hb⟩:=Option.isSome_iff_exists.1 (Dr n xh)
  have GM:=uE _ (gU hb)
  simp only at GM
  rw [qh] at hr hx
  obtain ⟨id,off,e1,e2⟩:=mc (P:=Tryz.prog) s (k:=7) rfl hc eB kW
  refine WP.loop (WP.has hE (zg rfl (zt rfl (af rfl rfl aT) (by simp <;> omega) ?_)))
  refine zk 5 rfl (WP.block (zg rfl (zo rfl (dr (r:=.ptr id off) rfl rfl e1) (zl rfl (e2 _ dL) (zk 7 rfl (zf rfl (tA _ _) (zl rfl (s.ld (k:=3) rfl AT rfl) (zm rfl (zc rfl (OU (n:=n) hT (s.ae [4,4,4]) I.ok.pl I.pins I.ok.lg I.ok.dk (by have:=rA (ε:=ε); omega)) ?_)))))))))
  rintro v h ⟨e,b0,ε',Im,(⟨he,rfl,s⟩ | ⟨rfl,u0,rfl,s⟩)⟩
  ·dsimp only [bringA,getA,aQ] at s
   refine zk 9 rfl (zt rfl (af rfl rfl aN) (by simp; exact he) ?_)
   exact zk 8 rfl (WP.ret (hr e ε' _ _ (.iP n _ ε e b0 ε' Im he) he rfl rfl ((s.ae [3,3,3,3,0,0,0]).del 7)))
  ·dsimp only [bringA,getA,aQ] at s
   have s:=s.drop
   have ME:=Im.put (b:=b) (aK:=aK) I
   have me:=Im.ok I.ok I.pins
   refine zk 9 rfl (zh rfl (af rfl rfl aN) (rfl) (zk 4 rfl ?_))
   have s1:Sat h (eW (fun v b=>.cx v b) es now::_):=s.ae [5]
   obtain ⟨_,_,_,_,q3⟩:=s1.at (k:=0) rfl
   rcases sL (n:=n) q3 with ⟨_,q4⟩ | ⟨u,b',g1,g2,_⟩
   ·rw [hb] at q4; cases q4
   rw [hb] at g2
   have:=bk g2
   subst this
   have s2:=(s1.dup (aW.HG (fun _ _=>aW.cx _ _) _ _)).hO (B:=.cx u b) fun a' b' h'=>by
    rcases sL (n:=n) h' with ⟨_,q4⟩ | ⟨u',ZC,Z6,Z7,WV⟩
    ·rw [hb] at q4; cases q4
    ·rw [g1] at Z6; rw [hb] at Z7
     have h5:=bk Z6
     have h6:=bk Z7
     subst h5; subst h6
     exact WV
   dsimp only [bringA,getA,aQ] at s2
   obtain ⟨uid,ab9,ab_,rfl⟩:=iC (s2.aE (k:=0) rfl (dy _ _)) (by omega)
   have s:=s2.ae [2,0]
   dsimp only [bringA,getA,aQ] at s
   have s0:=s
   refine WP.drawn [ai,ai,ai,ai,ai,ai,ai,ai,ai,ai,ai,ai,ai,ai] rfl (by kernel_rfl) (by kernel_rfl) ?_
   refine zM rfl (zN rfl (zF rfl (tA _ _) (zL rfl (s.ld (k:=7) rfl AT rfl) (zM rfl (zM rfl (zN rfl (zF rfl (q_ _ _) (zL rfl (s.ld (k:=5) rfl jS rfl) (zM rfl (zO rfl (iJ rfl rfl (Y0 (s.row (k:=6) rfl) g1 lp bD oP)) (zM rfl (aB.any rfl rfl rfl rfl (OpR.call rfl rfl rfl rfl (UO (n:=n) (aK:=aK) (b:=b) hT s (dy _ _) me.pl (by omega))) ?_))))))))))))
   rintro v h ⟨rfl,s⟩
   refine zA rfl ?_
   refine aB.nil ⟨⟨aa,aa,aa,aa,aa,aa,aa,aa,aa,aa,aa,aa,aa,aa,aa⟩,?_⟩
   refine zK 5 rfl (zf rfl (tA _ _) (zl rfl (s.ld (k:=7) rfl AT rfl) (zm rfl (zc rfl (H8 (n:=n) hT s (UX me.pl)) ?_))))
   rintro v h ⟨rfl,s⟩
   refine zk 5 rfl ?_
   by_cases hg:(lD ε'.1 n b aK).1=0
   ·have K6:(jy ε'.1 n b aK).1=(unpinF (lD ε'.1 n b aK).2 n).1:=by simp only [jy,hg,bO]
    have Z8:(jy ε'.1 n b aK).2=(unpinF (lD ε'.1 n b aK).2 n).2:=rfl
    rw [←K6,←Z8] at *
    refine zt rfl (af rfl rfl eA) (by simp; exact hg) ?_
    refine zk 9 rfl ?_
    by_cases he:(jy ε'.1 n b aK).1=0
    ·skip
     refine zh rfl (af rfl rfl aN) (by simp; exact he) ?_
     refine zv (zj rfl (WP.skip (zr rfl (zb rfl (by exact br (aC (by omega) (by omega))) ?_))))
     refine zm rfl (zv ?_)
     have s9:=(s.ae [5,5,2,4,0,1,1,1]).del 8
     refine ih (i+1) ((jy ε'.1 n b aK).2,ε'.2) _ _ Q (by omega) ME.1 (by have h9:cn ((jy ε'.1 n b aK).2,ε'.2)≤cn ε+1:=ME.2.1; omega) s9 ⟨rfl,rfl,rfl,rfl,rfl,rfl,aa⟩ (fun e J E' h' ht CC l4 l5 s' => ?_) (fun J E' h' ht jd s' => ?_)
     ·exact hr e J E' h' (.put n _ ε b0 b ε' e J Im hb he ht) CC l4 l5 s'
     ·exact hx J E' h' (.put n _ ε b0 b ε' 0 J Im hb he ht) jd s'
    ·skip
     refine zt rfl (af rfl rfl aN) (by simp; exact he) ?_
     exact zk 8 rfl (WP.ret (hr _ _ _ _ (.bad n _ ε b0 b ε' Im hb he) he rfl rfl (((s.ae [5,5,2,4,0,1,1,1]).del 8).del 7)))
   ·have K6:(jy ε'.1 n b aK).1=(lD ε'.1 n b aK).1:=by simp only [jy,hg,bN]
    have Z8:(jy ε'.1 n b aK).2=(unpinF (lD ε'.1 n b aK).2 n).2:=rfl
    rw [←K6] at hg
    refine zh rfl (af rfl rfl eA) (by simp; rw [←K6]; exact hg) ?_
    refine zk 6 rfl (zt rfl (af rfl rfl aN) (by simp; rw [←K6]; exact hg) ?_)
    refine zk 8 rfl (WP.ret (hr _ _ _ _ (.bad n _ ε b0 b ε' Im hb hg) hg rfl (by rw [K6]; rfl) ?_))
    exact ((s.ae [5,5,2,4,0,1,1,1]).del 8).del 7
end
end Go.Proofs.YtefepnnfphdkpaaGreat.Am
