/- ChainNeeds: a part of its proof; conditions: its statement's. -/
import Derived.Test.YtefepnnfphdkpaaGreatB24
namespace Go.Proofs.YtefepnnfphdkpaaGreat.Am
open Go
inductive tG (aU:Int)(cT now:List Nat): Nat→List c7→Prop where
 | done (i:Nat) (h:now.length≤i):tG aU cT now i []
 | skip (i:Nat) (l:List c7) (h:i<now.length) (he:cT[i]?=now[i]?) (hr:tG aU cT now (i+1) l):tG aU cT now i l
 | take (i e:Nat) (l:List c7) (h1:i<e) (h2:e≤now.length) (h3:cT[i]?≠now[i]?) (h4:∀k,e≤k→k<e+8→cT[k]?=now[k]?) (hr:tG aU cT now e l):tG aU cT now i (⟨aU,i,false,(now.take e).drop i⟩::l)
def Jd (aU:Int)(cT now:List Nat)(c:List c7): Prop:=∃l,tG aU cT now 12 l∧c=if l=[] then [⟨aU,0,false,[]⟩] else l
theorem xj : ∃i,Tryz.prog.info? 180=some i∧i.size=4∧i.bytes=48 :=
 ⟨_,(show Tryz.prog.info? 180=some ((Tryz.prog.info? 180).getD default) by kernel_rfl),by kernel_rfl,by kernel_rfl⟩
section
variable {told:cK} {h:H} {S:List aq} {X Y:aq} {r k q p bJ a g bA:Nat} {op v x u wh di:V} {l b cT now:List Nat}
noncomputable def Vn : Code:=gr [1,1,0,1,0,0] ((Tryz.f115.body).getD .skip)
noncomputable def Vo : Code:=gr [1,1,0,1,0,0,1,0,1,1,0,1,0,0] ((Tryz.f115.body).getD .skip)
theorem Lc {pg:Int}{I:Nat}{t7:V}{k1 k2:Nat}(s:Sat h S)(wj:getA S k1=some X)(hX:cI X (cL u cT))(IK:getA S k2=some Y)(hY:cI Y (cL v now))(Mq:cT.length=512)(je:now.length=512): ∀(j i e:Nat) (E:List (Nat×V)) (Q:Ex→List (Nat×V)→H→Prop),i+j=512→I<e→e≤i→(∀k,e≤k→k<i→cT[k]?=now[k]?) →
  Has E [(0,.int .i64 pg),(1,u),(2,v),(7,t7),(8,.int .i64 (I:Int)),(9,.int .i64 (e:Int)),(10,.int .i64 (i:Int))] →
  (∀J E',I<J→J≤512→(∀k,J≤k→k<J+8→cT[k]?=now[k]?)→Has E' [(0,.int .i64 pg),(1,u),(2,v),(7,t7),(8,.int .i64 (I:Int)),(9,.int .i64 (J:Int))]→Q (.exit 2) E' h) →
  WP ⟨Tryz.prog,told⟩ 71 (.loop Vo) E h Q:=by
 have hv:=s.aH IK hY
 have hu:=s.aH wj hX
 have hlen:lenV Tryz.prog h 28 v=some (.int .i64 now.length):=aS aI hv
 intro j
 induction j with
 | zero =>
  intro i e E Q hi h1 h2 hg hE hq
  refine WP.loop (WP.has hE (zK 5 rfl (zo rfl (aV rfl rfl rfl hlen) (zh rfl (ag rfl rfl bf) (by simp <;> omega) ?_))))
  refine zk 8 rfl (WP.exit ?_)
  refine hq e _ h1 (by omega) (fun k k1 _ => ?_) ⟨rfl,rfl,rfl,rfl,rfl,rfl,aa⟩
  by_cases hk:k<i
  ·exact hg k k1 hk
  ·rw [oS (by omega),oS (by omega)]
 | succ j ih =>
  intro i e E Q hi h1 h2 hg hE hq
  have hb:now[i]?=some (now[i]'(by omega)):=aY _
  generalize (now[i]'(by omega))=b at hb
  have hc:cT[i]?=some (cT[i]'(by omega)):=aY _
  generalize (cT[i]'(by omega))=c at hc
  obtain ⟨id,off,e1,e2⟩:=eB hv hb
  obtain ⟨wu,off',e3,e4⟩:=eB hu hc
  refine WP.loop (WP.has hE (zK 5 rfl (zo rfl (aV rfl rfl rfl hlen) (zt rfl (ag rfl rfl bf) (by simp <;> omega) ?_))))
  refine zk 3 rfl (zb rfl (by exact bB (aC (by omega) (by omega))) ?_)
  by_cases hd:i<e+8
  ·skip
   refine zt rfl (ag rfl rfl bf) (by simp <;> omega) ?_
   refine zk 5 rfl (WP.block (zw ?_))
   have s0:=s
   refine WP.drawn [ak,ak,ak,ak,ak,ak,ak,ak,ak] rfl (by kernel_rfl) (by kernel_rfl) ?_
   refine zM rfl (zM rfl (zO rfl (dm (r:=.ptr wu off') rfl rfl e3) (zL rfl e4 (zM rfl (zM rfl (zO rfl (dm (r:=.ptr id off) rfl rfl e1) (zL rfl e2 ?_)))))))
   by_cases Fs:c=b
   ·skip
    refine aB.tD rfl rfl rfl rfl (ag rfl rfl aL) (by simp; exact_mod_cast Fs) ?_
    refine aB.nil ⟨⟨aa,aa,aa,aa,aa,aa,aa,aa,aa,aa⟩,?_⟩
    refine zj rfl (WP.skip (zr rfl (zm rfl (zb rfl (by exact bB (aC (by omega) (by omega))) ?_))))
    refine za rfl (zv ?_)
    exact ih (i+1) e _ Q (by omega) h1 (by omega) (fun k k1 k2=>(by
     rcases gZ k i with h | h
     ·exact hg k k1 h
     ·rw [show k=i by omega,hb,hc,Fs])) ⟨rfl,rfl,rfl,rfl,rfl,rfl,rfl,aa⟩ hq
   ·skip
    refine aB.yq rfl rfl rfl rfl (ag rfl rfl aL) (by simp; omega) ?_
    refine aB.nil ⟨⟨aa,aa,aa,aa,aa,aa,aa,aa,aa,aa⟩,?_⟩
    refine zK 3 rfl (zb rfl (by exact bB (aC (by omega) (by omega))) ?_)
    refine za rfl (zv (zr rfl (zm rfl (zb rfl (by exact bB (aC (by omega) (by omega))) ?_))))
    refine za rfl (zv ?_)
    exact ih (i+1) (i+1) _ Q (by omega) (by omega) (by omega) (fun k k1 k2=>absurd k2 (by omega)) ⟨rfl,rfl,rfl,rfl,rfl,rfl,rfl,aa⟩ hq
  ·skip
   refine zh rfl (ag rfl rfl bf) (by simp <;> omega) ?_
   exact zk 3 rfl (WP.exit (hq e _ h1 (by omega) (fun k k1 k2=>hg k k1 (by omega)) ⟨rfl,rfl,rfl,rfl,rfl,rfl,aa⟩))
theorem Ld (hT:W told){pg:Int}(hX:cI X (cL u cT))(hY:cI Y (cL v now))(Mq:cT.length=512)(je:now.length=512): ∀(j i:Nat) (acc:List c7) (av:V) (cs:List V) (h:H) (E:List (Nat×V)) (Q:Ex→List (Nat×V)→H→Prop),512≤i+j→i≤512→acc.length≤i →
  Sat h (.arr 4 av cs::c9 cs acc::X::Y::S)→(∀l,tG pg cT now i l→tG pg cT now 12 (acc++l)) →
  Has E [(0,.int .i64 pg),(1,u),(2,v),(7,av),(8,.int .i64 (i:Int))] →
  (∀tH cs' l E' h',tG pg cT now 12 l→l.length≤512→Sat h' (.arr 4 tH cs'::c9 cs' l::X::Y::S)→Has E' [(0,.int .i64 pg),(7,tH)]→Q (.exit 0) E' h') →
  WP ⟨Tryz.prog,told⟩ 71 (.loop Vn) E h Q:=by
 intro j
 induction j with
 | zero =>
  intro i acc av cs h E Q hj hi P3 s I hE hq
  have hlen:lenV Tryz.prog h 28 v=some (.int .i64 now.length):=aS aI (s.aH (k:=3) rfl hY)
  refine WP.loop (WP.has hE (zK 5 rfl (zo rfl (aV rfl rfl rfl hlen) (zh rfl (ag rfl rfl bf) (by simp <;> omega) ?_))))
  refine zk 2 rfl (WP.exit ?_)
  have:=I [] (.done _ (by omega))
  rw [fJ] at this
  exact hq av cs acc _ _ this (by omega) s ⟨rfl,rfl,aa⟩
 | succ j ih =>
  intro i acc av cs h E Q hj hi P3 s I hE hq
  have hv:=s.aH (k:=3) rfl hY
  have hu:=s.aH (k:=2) rfl hX
  have hlen:lenV Tryz.prog h 28 v=some (.int .i64 now.length):=aS aI hv
  by_cases bk:i<512
  ·have hb:now[i]?=some (now[i]'(by omega)):=aY _
   generalize (now[i]'(by omega))=b at hb
   have hc:cT[i]?=some (cT[i]'(by omega)):=aY _
   generalize (cT[i]'(by omega))=c at hc
   obtain ⟨id,off,e1,e2⟩:=eB hv hb
   obtain ⟨wu,off',e3,e4⟩:=eB hu hc
   refine WP.loop (WP.has hE (zK 5 rfl (zo rfl (aV rfl rfl rfl hlen) (zt rfl (ag rfl rfl bf) (by simp <;> omega) ?_))))
   refine zk 3 rfl (WP.block (zK 2 rfl ?_))
   have s0:=s
   refine WP.drawn [ak,ak,ak,ak,ak,ak,ak,ak,ak] rfl (by kernel_rfl) (by kernel_rfl) ?_
   refine zM rfl (zM rfl (zO rfl (dm (r:=.ptr wu off') rfl rfl e3) (zL rfl e4 (zM rfl (zM rfl (zO rfl (dm (r:=.ptr id off) rfl rfl e1) (zL rfl e2 ?_)))))))
   by_cases Fs:c=b
   ·skip
    refine aB.yq rfl rfl rfl rfl (ag rfl rfl gC) (by simp; exact_mod_cast Fs) ?_
    refine aB.nil ⟨⟨aa,aa,aa,aa,aa,aa,aa,aa,aa,aa⟩,?_⟩
    refine zK 4 rfl (zb rfl (by exact bB (aC (by omega) (by omega))) ?_)
    exact zk 2 rfl (WP.exit (ih (i+1) acc av cs h _ Q (by omega) (by omega) (by omega) s (fun l hl=>I l (.skip i l (by omega) (by rw [hb,hc,Fs]) hl)) ⟨rfl,rfl,rfl,rfl,rfl,aa⟩ hq))
   ·skip
    refine aB.tD rfl rfl rfl rfl (ag rfl rfl gC) (by simp; omega) ?_
    refine aB.nil ⟨⟨aa,aa,aa,aa,aa,aa,aa,aa,aa,aa⟩,?_⟩
    refine zK 5 rfl (zb rfl (by exact bB (aC (by omega) (by omega))) ?_)
    refine zk 8 rfl (WP.block ?_)
    refine Lc s (k1:=2) (k2:=3) rfl hX rfl hY Mq je (512-(i+1)) (i+1) (i+1) _ _ (by omega) (zQ i) (aD _) (fun k k1 k2=>absurd k2 (by omega)) ⟨rfl,rfl,rfl,rfl,rfl,rfl,rfl,aa⟩ (fun e' E' P4 Ft Vp kK => ?_)
    refine WP.has kK ?_
    have Vq:=iq hv (a:=i) (b:=e') (by omega) (by omega)
    refine zK 8 rfl (zo rfl (ff (p:=some (.int .i64 (i:Int))) (q:=some (.int .i64 (e':Int))) (m:=none) (p':=some i) (q':=some e') (m':=none) rfl rfl rfl rfl (by rw [eV (by omega)]; rfl) (by rw [eV (by omega)]; rfl) rfl Vq.1) ?_)
    refine zc rfl (oO hT (s.ae [3]) (sS hY (a:=i) (b:=e') (by omega) (by omega)) (by simp; omega)) ?_
    intro w h s
    dsimp only [bringA,getA,aZ] at s
    obtain ⟨wid,_,J,_,rfl,_⟩:=s.eo (by simp; omega)
    have s:=s.gR
    generalize L8:(now.take e').drop i=bs at s
    refine zo rfl (cX rfl (by rw [Gw]; rfl)) ?_
    obtain ⟨rv,h1,yR,s1⟩:=kg (P:=Tryz.prog) (k:=4) (x:=.agg [.int .i64 pg,.int .i64 (i:Int),.bool false,.sl wid 0 bs.length J]) s iO qL vN rfl (by decide) (by decide) rfl rfl
    dsimp only [V.cells] at s1
    refine az.any rfl rfl rfl (OpR.of (R:=fun v h'=>v=rv∧h'=h1) (lR rfl yR) ⟨rfl,rfl⟩) ?_
    rintro v' h' ⟨rfl,rfl⟩
    obtain ⟨i1,jS,ie,uJ⟩:=xj
    have j4:cs.length=acc.length*4:=by
     obtain ⟨a,b,q1,q2,q3⟩:=s1.at (k:=4) rfl
     exact nG q3
    obtain ⟨tH,h2,sq,s2⟩:=gI (s1.ae [3,0]) iO jS qL ie (by omega) rfl (by decide) (by simp only [aQ,bF]; omega)
    dsimp only [bringA,getA,aZ] at s2
    refine az.any rfl rfl rfl (OpR.of (R:=fun v h'=>v=tH∧h'=h2) (mL rfl rfl sq) ⟨rfl,rfl⟩) ?_
    rintro v' h' ⟨rfl,rfl⟩
    refine za rfl (zv (zr rfl (zk 2 rfl (zv ?_))))
    have s3:Sat _ (c9 cs acc::.cE (.sl wid 0 bs.length J) bs::_):=s2.ae [4,2]
    have s4:=s3.two (C:=c9 (cs++[.int .i64 pg,.int .i64 (i:Int),.bool false,.sl wid 0 bs.length J]) (acc++[⟨pg,i,false,bs⟩])) (bn.n_ _ _) (bn.cE _ _) fun a b q1 q2=>w8 q1 ⟨⟨⟨rfl,rfl,rfl⟩,q2⟩,aa⟩
    have s5:=(s4.ae [1,0,2,1]).del 4
    dsimp only [bringA,getA,aZ] at s5
    refine ih e' (acc++[⟨pg,(i:Int),false,bs⟩]) _ _ _ _ Q (by omega) Ft (by simp; omega) s5 (fun l hl => ?_) ⟨rfl,rfl,rfl,rfl,rfl,aa⟩ hq
    have:=I _ (.take i e' l P4 (by omega) (fun hx=>by rw [hb,hc] at hx; exact Fs (bG hx)) Vp hl)
    rw [L8] at this
    rwa [eO]
  ·have W_:i=512:=by omega
   refine WP.loop (WP.has hE (zK 5 rfl (zo rfl (aV rfl rfl rfl hlen) (zh rfl (ag rfl rfl bf) (by simp <;> omega) ?_))))
   refine zk 2 rfl (WP.exit ?_)
   have:=I [] (.done _ (by omega))
   rw [fJ] at this
   exact hq av cs acc _ _ this (by omega) s ⟨rfl,rfl,aa⟩
theorem Je (hT:W told){pg:Int}(s:Sat h (X::Y::S))(hX:cI X (cL u cT))(hY:cI Y (cL v now))(J:cT.length=512)(je:now.length=512):
  Call ⟨Tryz.prog,told⟩ 115 [.int .i64 pg,u,v] h fun w h'=>∃cs l,Jd pg cT now l∧l.length≤512∧Sat h' (.arr 4 w cs::c9 cs l::X::Y::S):=by
 refine Call.of_wp (hT.free _ rfl) Tryz.func115 rfl rfl (zK 13 rfl (WP.block ?_))
 refine Ld hT (pg:=pg) hX hY J je 500 12 [] .bu [] _ _ _ (by omega) (by omega) (by simp) ((s.iP aa).qc) (fun l hl=>hl) ⟨rfl,rfl,rfl,rfl,rfl,aa⟩ (fun tH cs' l E' h' hr Sv s' kK => ?_)
 have s:=s'
 have hlen:=s.uM (j1:=0) (j2:=1) rfl rfl iO
 have Mw:=s.lC (j:=0) rfl
 refine WP.has kK (zK 4 rfl (zo rfl (aV rfl rfl rfl hlen) ?_))
 by_cases I:l=[]
 ·skip
  refine zt rfl (ag rfl rfl gC) (by subst I; rfl) ?_
  refine zk 5 rfl (zo rfl (cX rfl (by rw [Gw]; rfl)) ?_)
  obtain ⟨rv,h1,yR,s1⟩:=kg (P:=Tryz.prog) (k:=4) (x:=.agg [.int .i64 pg,.int .i64 0,.bool false,.bu]) s iO qL vN rfl (by decide) (by decide) rfl rfl
  dsimp only [V.cells] at s1
  refine az.any rfl rfl rfl (OpR.of (R:=fun v h'=>v=rv∧h'=h1) (lR rfl yR) ⟨rfl,rfl⟩) ?_
  rintro v' h' ⟨rfl,rfl⟩
  refine zk 2 rfl (WP.ret ⟨aa,_,rfl,?_⟩)
  refine ⟨[.int .i64 pg,.int .i64 0,.bool false,.bu],[⟨pg,0,false,[]⟩],⟨l,hr,by rw [ax I]⟩,by simp,?_⟩
  have s2:=(s1.del 2).del 1
  have s3:Sat _ (.cE .bu []::.arr 4 v' _::X::Y::S):=s2.qM
  have s4:=s3.jH (B:=c9 [.int .i64 pg,.int .i64 0,.bool false,.bu] [⟨pg,0,false,[]⟩]) fun a b q=>⟨⟨⟨rfl,rfl,rfl⟩,q⟩,aa⟩
  exact s4.ae [1,0]
 ·skip
  refine zh rfl (ag rfl rfl gC) (by cases l with | nil=>exact absurd rfl I | cons _ _=>simp; omega) ?_
  exact zk 8 rfl (WP.ret ⟨aa,_,rfl,_,l,⟨l,hr,by rw [ai I]⟩,Sv,s⟩)
end
def fQ (m:List Fm): Nat:=(m.map (·.changed)).count true
theorem ki {f g:Fm}: ∀ {m:List Fm} {i:Nat},m[i]?=some f→fQ (m.set i g)+f.changed.toNat=fQ m+g.changed.toNat:=by
 intro m
 induction m with
 | nil=>intro i h; simp at h
 | cons x m I =>
  intro i h
  cases i with
  | zero =>
   simp at h
   subst h
   simp only [fQ,List.set_cons_zero,b8,List.count_cons]
   cases x.changed <;> cases g.changed <;> simp
  | succ i =>
   rw [j8] at h
   have:=I h
   simp only [fQ,zE,b8,List.count_cons] at this ⊢
   omega
theorem yS {g:Fm}(I:g.changed=false): ∀ {m:List Fm} {i:Nat},fQ (m.set i g)≤fQ m:=by
 intro m i
 cases h:m[i]? with
 | none =>
  have:m.length≤i:=by simpa using h
  rw [List.set_eq_of_length_le this]
  exact aD _
 | some f =>
  have:=ki (g:=g) h
  rw [I] at this
  simp only [Bool.toNat_false] at this
  omega
def cj (ε:aF): Nat:=ε.2.2.waiting.length+fQ ε.1.ah
theorem qq {ε:aF}: ε.2.2.waiting.length≤cj ε:=zR _ _
theorem ew.count {π I:Pl}(J:ew π I): fQ I.ah=fQ π.ah:=by
 have:I.ah.map (·.changed)=π.ah.map (·.changed):=by
  refine oW fun i => ?_
  rw [j9,j9]
  cases h:π.ah[i]? with
  | none =>
   have h1:π.ah.length≤i:=by simpa using h
   have:I.ah[i]?=none:=by simp [J.len,h1]
   rw [this]
  | some f =>
   obtain ⟨t,ht⟩:=J.get i f h
   rw [ht]; rfl
 simp only [fQ,this]
theorem C5 {δ:Dk}{n:Int}{b:List Nat}(h:(δ.cJ n b).1≠0): (δ.cJ n b).2.waiting=δ.waiting:=by
 unfold Dk.cJ at h ⊢
 split
 ·rfl
 ·rename_i I
  rw [ai I] at h
  split
  ·rfl
  ·rename_i J
   rw [ai J] at h
   split
   ·rfl
   ·rename_i h3
    rw [ai h3] at h
    exact absurd rfl h
theorem Le {ε:aF}{i:Nat}: cj (outF ε i).2≤cj ε:=by
 unfold outF
 split
 ·exact aD _
 ·rename_i f J
  split
  ·exact aD _
  ·rename_i I
   have I:f.changed=true:=by cases h:f.changed <;> simp [h] at I ⊢
   split
   ·exact aD _
   ·split
    ·simp only [cj,mV]; exact aD _
    ·split
     ·rename_i hw
      simp only [cj,C5 hw,mV]; exact aD _
     ·have h1:=Ec (δ:=(bM ε.2 (cF f.b 4 8)).2.2) (n:=f.aU) (b:=f.b)
      rw [mV] at h1
      have h2:=ki (g:={ f with changed:=false }) J
      simp only [I,Bool.toNat_true,Bool.toNat_false] at h2
      simp only [cj]
      omega
theorem uU {π:Pl}{i:Nat}{f:Fm}: fQ (cA π i f).ah≤fQ π.ah:=yS rfl
theorem ey.cj {ε ε':aF}{n e:Int}{b:List Nat}(hr:ey ε n e b ε'): Am.cj ε'≤Am.cj ε:=by
 have nI:∀ {I:Pl},ew ε.1 I→∀i,Am.cj (outF (I,ε.2) i).2≤Am.cj ε:=fun {I} J i=>by
  have:=Le (ε:=(I,ε.2)) (i:=i)
  refine cy this ?_
  simp only [Am.cj,J.count]
  exact aD _
 cases hr with
 | arg _=>exact aD _
 | yN i f h1 h2 hl hf =>
  have h2:=ki (g:={ f with dD:=true,pins:=f.pins+1 }) hf
  simp only [Am.cj] at h2 ⊢
  omega
 | out I i f h1 h2 hl J hf hh he=>exact nI J i
 | read I i f h1 h2 hl J hf hh he hr=>exact cy (vj uU _) (nI J i)
 | bad I i f h1 h2 hl J hf hh he hr hc=>exact cy (vj uU _) (nI J i)
 | load I i f h1 h2 hl J hf hh he hr hc=>exact cy (vj (cy (yS rfl) uU) _) (nI J i)
theorem yT {π:Pl}{n:Int}: fQ (unpinF π n).2.ah=fQ π.ah:=by
 unfold unpinF
 split
 ·rfl
 ·split
  ·rfl
  ·rename_i i hi f I
   have J:=ki (g:={ f with pins:=f.pins-1 }) I
   simp only at J ⊢
   omega
theorem kx.cj {ε ε':aF}{n e:Int}{b:List Nat}(I:kx ε n e b ε'): Am.cj ε'≤Am.cj ε:=by
 cases I with
 | dead _=>exact aD _
 | gu e b ε' J I he=>exact I.cj
 | oR b ε' J I he=>have:=I.cj; simp only [Am.cj,yT] at this ⊢; exact this
 | read b ε' J I he=>have:=I.cj; simp only [Am.cj,yT] at this ⊢; exact this
theorem mz.cj {ε ε':aF}{now:List (Int×List Nat)}{bI:Bool}{n e:Int}{b:List Nat}(I:mz ε now bI n e b ε'): Am.cj ε'≤Am.cj ε:=by
 cases I with
 | arg _=>exact aD _
 | bI _ _ _=>exact aD _
 | own _ _ _ _ _=>exact aD _
 | read e b ε' J h2 h3 hl I=>exact I.cj
theorem qp.cj {ε ε':aF}{now cg:List (Int×List Nat)}{bI:Bool}{n e:Int}{b:List Nat}(I:qp ε now bI n b e cg ε'): Am.cj ε'≤Am.cj ε:=by
 cases I with
 | may e c ε' I he=>exact I.cj
 | bad c ε' I J=>exact I.cj
 | done c ε' I J=>exact I.cj
inductive jg (now:List (Int×List Nat)): List Int→aF→Int→List c7→aF→Prop where
 | nil (ε:aF):jg now [] ε 0 [] ε
 | err (n:Int) (l:List Int) (ε:aF) (e:Int) (b:List Nat) (ε':aF) (hr:kx ε n e b ε') (he:e≠0):jg now (n::l) ε e [] ε'
 | part (n:Int) (l:List Int) (ε:aF) (cT b:List Nat) (ε':aF) (c:List c7) (e:Int) (cs:List c7) (jU:aF) (hr:kx ε n 0 cT ε') (hb:lookL n now=some b) (hd:(lookL n ε'.1.bZ).isSome=true) (hc:Jd n cT b c) (hl:c.length≤512) (ht:jg now l ε' e cs jU):jg now (n::l) ε e (c++cs) jU
 | whole (n:Int) (l:List Int) (ε:aF) (cT b:List Nat) (ε':aF) (e:Int) (cs:List c7) (jU:aF) (hr:kx ε n 0 cT ε') (hb:lookL n now=some b) (hd:(lookL n ε'.1.bZ).isSome=false) (ht:jg now l ε' e cs jU):jg now (n::l) ε e (⟨n,0,true,b⟩::cs) jU
theorem jg.lK {now:List (Int×List Nat)}{l:List Int}{ε ε':aF}{e:Int}{cs:List c7}(I:jg now l ε e cs ε')(h:ir ε): ir ε':=by
 induction I with
 | nil ε=>exact h
 | err n l ε e b ε' I he=>exact I.lK h
 | part n l ε cT b ε' c e cs J I hb hd hc hl ht ih=>exact ih (I.lK h)
 | whole n l ε cT b ε' e cs J I hb hd ht ih=>exact ih (I.lK h)
theorem jg.cj {now:List (Int×List Nat)}{l:List Int}{ε ε':aF}{e:Int}{cs:List c7}(I:jg now l ε e cs ε'): Am.cj ε'≤Am.cj ε:=by
 induction I with
 | nil ε=>exact aD _
 | err n l ε e b ε' I he=>exact I.cj
 | part n l ε cT b ε' c e cs J I hb hd hc hl ht ih=>exact cy ih I.cj
 | whole n l ε cT b ε' e cs J I hb hd ht ih=>exact cy ih I.cj
theorem Lf {P:Program}{E:List (Nat×V)}{h:H}{a b:Nat}{v w:V}(I:look E a=some v)(J:look E b=some w): jt P E h [.tmp a,.tmp b]=some (.aX [v,w]):=by simp only [jt,mapO,resE,I,J]
section
variable {told:cK} {h:H} {S:List aq} {X Y:aq} {r k q p bJ a g bA:Nat} {op v x u wh di:V} {l b cT data:List Nat} {now:List (Int×List Nat)} {bI:Bool} {ε:aF}
theorem xk (I:W told){id:Nat}(s:Sat h S): Call ⟨Tryz.prog,told⟩ 62 [.map id] h fun v h'=>∃b,v=.fn (.func 120) [] [.ptr b 0]∧Sat h' (pt b (.cells 1 [.map id] false)::S):=by
 refine Call.of_wp (I.free _ rfl) Tryz.func62 rfl rfl (zg rfl ?_)
 refine az.cr s rfl rfl rfl (fC rfl rfl) (fun J h s => ?_)
 exact zk 4 rfl (zo rfl (Gj rfl rfl) (zk 2 rfl (WP.ret ⟨aa,_,rfl,_,rfl,s⟩)))
theorem Jf (I:W told)(s:Sat h (fy g a now bI::S))(hm:now.length≤1048576)(hk:∀n∈now.map (·.1),(Lit.int .i64 n).wf=true):
  Call ⟨Tryz.prog,told⟩ 112 [.ptr g 0] h fun v h'=>Sat h' (.arr 1 v (fS (dQ now))::fy g a now bI::S):=by
 obtain ⟨nv,s⟩:=dn.1 s
 obtain ⟨J,rfl⟩:=CG s (j:=1) rfl
 refine Call.of_wp (I.free _ rfl) Tryz.func112 rfl rfl (zK 8 rfl (zf rfl (nC _ _) (zl rfl (s.ld (k:=0) rfl lM rfl) (zc rfl (xk I s) ?_))))
 rintro v h ⟨b,rfl,s⟩
 refine zc rfl (uS I (s.ae [0,1]) (by decide) hm hk) ?_
 intro kv h s
 exact zk 2 rfl (WP.ret ⟨aa,_,rfl,(dn.2 ⟨.map J,(s.ae [3,2,0]).del 3⟩).ae [1]⟩)
noncomputable def Vr : Code:=gr [1,1,0,1,0,0] ((Tryz.f58.body).getD .skip)
theorem C6 (hT:W told){ks:List Int}{kv:V}(Vs:ks.length≤65536)(uV:∀n∈ks,(lookL n now).isSome=true)(tc:∀e∈now,e.2.length=512): ∀(j i:Nat) (acc:List c7) (av:V) (cs:List V) (ε:aF) (h:H) (E:List (Nat×V)) (Q:Ex→List (Nat×V)→H→Prop),i+j=ks.length →
  ir ε→cj ε≤268435456→acc.length≤512*i →
  Sat h (.arr 4 av cs::c9 cs acc::fy g a now bI::dR a p q r op data bA::dG r p q ε.1::bW q p ε.2.1::bp p ε.2.2::.arr 1 kv (fS ks)::S) →
  Has E [(0,.ptr g 0),(4,av),(13,kv),(14,.int .i64 ks.length),(15,.int .i64 i)] →
  (∀e c ε' E' h',jg now (ks.drop i) ε e c ε'→e≠0→look E' 2=some .bu→look E' 3=some (.int .i64 e)→Sat h' (fy g a now bI::dR a p q r op data bA::dG r p q ε'.1::bW q p ε'.2.1::bp p ε'.2.2::S)→Q .ret E' h') →
  (∀c ε' E' h' tH cs',jg now (ks.drop i) ε 0 c ε'→acc.length+c.length≤512*ks.length→Has E' [(4,tH)]→Sat h' (.arr 4 tH cs'::c9 cs' (acc++c)::fy g a now bI::dR a p q r op data bA::dG r p q ε'.1::bW q p ε'.2.1::bp p ε'.2.2::S)→Q (.exit 0) E' h') →
  WP ⟨Tryz.prog,told⟩ 65 (.loop Vr) E h Q:=by
 intro j
 induction j with
 | zero =>
  intro i acc av cs ε h E Q hj gT hw P3 s hE hr hx
  refine WP.loop (WP.has hE (zg rfl (zh rfl (ag rfl rfl bf) (by simp <;> omega) ?_)))
  refine zk 3 rfl (WP.exit ?_)
  rw [gh (by omega)] at hx
  have s1:=s.del 7
  dsimp only [aZ] at s1
  refine hx [] ε _ _ av cs (.nil ε) (by simp; omega) ⟨rfl,aa⟩ ?_
  rw [fJ]
  exact s1
 | succ j ih =>
  intro i acc av cs ε h E Q hj gT hw P3 s hE hr hx
  have hn:ks[i]?=some (ks[i]'(by omega)):=aY _
  have wU:ks[i]'(by omega)∈ks:=rN _
  have oP:ks.drop i=ks[i]'(by omega)::ks.drop (i+1):=vg (by omega)
  generalize (ks[i]'(by omega))=n at hn wU oP
  have hc:(fS ks)[i]?=some (.int .i64 n):=by simp [fS,hn]
  obtain ⟨b,hb⟩:=Option.isSome_iff_exists.1 (uV n wU)
  have BT:=tc _ (jT hb)
  simp only at BT
  rw [oP] at hr hx
  obtain ⟨id,off,e1,e2⟩:=jK (P:=Tryz.prog) s (k:=7) rfl hc dx mh
  refine WP.loop (WP.has hE (zg rfl (zt rfl (ag rfl rfl bf) (by simp <;> omega) ?_)))
  refine zk 5 rfl (WP.block (zg rfl (zo rfl (dm (r:=.ptr id off) rfl rfl e1) (zl rfl (e2 _ eM) ?_))))
  obtain ⟨nv,s⟩:=dn.1 (s.ae [2])
  dsimp only [bringA,getA,aZ] at s
  refine zk 6 rfl (zf rfl (mj _ _) (zl rfl (s.ld (k:=0) rfl ux rfl) (zm rfl (zc rfl (xg (n:=n) hT (s.ae [4,4,4,4]) gT.ok gT.pins (cy qq hw)) ?_))))
  rintro v h ⟨e,w,ε',J,(⟨he,rfl,s⟩ | ⟨rfl,u,rfl,s⟩)⟩
  ·dsimp only [bringA,getA,aZ] at s
   refine zk 10 rfl (zt rfl (ag rfl rfl aL) (by simp; exact he) ?_)
   refine zk 8 rfl (WP.ret (hr e [] ε' _ _ (.err n _ ε e w ε' J he) he rfl rfl ?_))
   have s:=dn.2 ⟨nv,s.ae [4,4]⟩
   dsimp only [bringA,getA,aZ] at s
   exact ((s.del 7).del 6).del 5
  ·dsimp only [bringA,getA,aZ] at s
   have qQ:=J.lK gT
   have mK:=cy J.cj hw
   have hlen:=J.len gT
   refine zk 10 rfl (zh rfl (ag rfl rfl aL) (rfl) ?_)
   have s:=s.gR
   have s:=s.ae [5,5,1,1,1,1,1,1,1,0]
   dsimp only [bringA,getA,aZ] at s
   rcases mu (n:=n) (fun _ _=>bn.cE _ _) (s.ae [1]) nY bN nA with ⟨g1,g2,_⟩ | ⟨nw,b',g1,_,g2,s2⟩
   ·rw [hb] at g1; cases g1
   rw [hb] at g1
   have:=bG g1
   subst this
   refine zk 7 rfl (zf rfl (nC _ _) (zl rfl (s.ld (k:=0) rfl lM rfl) (zm rfl (zo rfl (iK rfl rfl g2) ?_))))
   obtain ⟨dv,s⟩:=cG.1 (s2.ae [3])
   dsimp only [bringA,getA,aZ] at s
   have s:=s.ae [4]
   dsimp only [bringA,getA,aZ] at s
   refine zk 6 rfl (zf rfl (mj _ _) (zl rfl (s.ld (k:=0) rfl ux rfl) (zn rfl (zf rfl (pI _ _) (zl rfl (s.ld (k:=1) rfl vI rfl) (zm rfl (zc rfl (PY (n:=n) hT (s.ae [5])) ?_)))))))
   rintro v h ⟨rfl,s⟩
   dsimp only [bringA,getA,aZ] at s
   refine zk 10 rfl ?_
   cases hd:(lookL n ε'.1.bZ).isSome with
   | true =>
    refine zK 6 rfl (zc rfl (Je hT (u:=u) (v:=nw) (pg:=n) (s.ae [11,4]) (dZ _ _) (dZ _ _) hlen BT) ?_)
    rintro rv h ⟨P5,c,hc,j4,s⟩
    dsimp only [bringA,getA,aZ] at s
    obtain ⟨i1,jS,ie,uJ⟩:=xj
    have TK:cs.length=acc.length*4:=by
     obtain ⟨a,b,q1,q2,q3⟩:=s.at (k:=12) rfl
     exact nG q3
    have Ws:P5.length=c.length*4:=by
     obtain ⟨a,b,q1,q2,q3⟩:=s.at (k:=1) rfl
     exact nG q3
    obtain ⟨tH,h2,sq,s2⟩:=gI (s.ae [11,0]) iO jS qL ie (by omega) rfl (by decide) (by omega)
    dsimp only [bringA,getA,aZ] at s2
    refine az.any rfl rfl rfl (OpR.of (R:=fun v h'=>v=tH∧h'=h2) (mL rfl rfl sq) ⟨rfl,rfl⟩) ?_
    rintro v' h' ⟨rfl,rfl⟩
    refine za rfl (zv (zr rfl (zb rfl (by exact bB (aC (by omega) (by omega))) ?_)))
    refine zm rfl (zv ?_)
    have s3:Sat _ (c9 cs acc::c9 P5 c::_):=s2.ae [12,2]
    have s4:=s3.two (C:=c9 (cs++P5) (acc++c)) (bn.n_ _ _) (bn.n_ _ _) fun a b q1 q2=>w8 q1 q2
    dsimp only [bringA,getA,aZ] at s4
    have s5:=cG.2 ⟨dv,s4.ae [7,7]⟩
    dsimp only [bringA,getA,aZ] at s5
    have s6:=dn.2 ⟨nv,s5.ae [7,7]⟩
    dsimp only [bringA,getA,aZ] at s6
    have s7:=(((s6.ae [3,2,0,0,3,3,3,3]).del 10).del 9).del 8
    dsimp only [bringA,getA,aZ] at s7
    refine ih (i+1) (acc++c) _ _ ε' _ _ Q (by omega) qQ mK (by simp; omega) s7 ⟨rfl,rfl,rfl,rfl,rfl,aa⟩ (fun e c' I E' h' ht he l2 l3 s' => ?_) (fun c' I E' h' Lh tR ht hl kK s' => ?_)
    ·exact hr e _ I E' h' (.part n _ ε w b ε' c e c' I J hb hd hc j4 ht) he l2 l3 s'
    ·refine hx (c++c') I E' h' Lh tR (.part n _ ε w b ε' c 0 c' I J hb hd hc j4 ht) (by simp at hl ⊢; omega) kK ?_
     rw [←eO]
     exact s'
   | false =>
    refine zK 5 rfl (zc rfl (oO hT (s.ae [4]) (dZ _ _) (by omega)) ?_)
    intro cw h s
    dsimp only [bringA,getA,aZ] at s
    obtain ⟨wid,_,Li,_,rfl,_⟩:=s.eo (by omega)
    have s:=s.gR
    refine zo rfl (cX rfl (by rw [Gw]; rfl)) ?_
    obtain ⟨rv,h1,yR,s1⟩:=kg (P:=Tryz.prog) (k:=4) (x:=.agg [.int .i64 n,.int .i64 0,.bool true,.sl wid 0 b.length Li]) s iO qL vN rfl (by decide) (by decide) rfl rfl
    dsimp only [V.cells] at s1
    refine az.any rfl rfl rfl (OpR.of (R:=fun v h'=>v=rv∧h'=h1) (lR rfl yR) ⟨rfl,rfl⟩) ?_
    rintro v' h' ⟨rfl,rfl⟩
    obtain ⟨i1,jS,ie,uJ⟩:=xj
    have TK:cs.length=acc.length*4:=by
     obtain ⟨a,b,q1,q2,q3⟩:=s1.at (k:=11) rfl
     exact nG q3
    obtain ⟨tH,h2,sq,s2⟩:=gI (s1.ae [10,0]) iO jS qL ie (by omega) rfl (by decide) (by simp only [aQ,bF]; omega)
    dsimp only [bringA,getA,aZ] at s2
    refine az.any rfl rfl rfl (OpR.of (R:=fun v h'=>v=tH∧h'=h2) (mL rfl rfl sq) ⟨rfl,rfl⟩) ?_
    rintro v' h' ⟨rfl,rfl⟩
    refine za rfl (zv (zr rfl (zb rfl (by exact bB (aC (by omega) (by omega))) ?_)))
    refine zm rfl (zv ?_)
    have s3:Sat _ (c9 cs acc::.cE (.sl wid 0 b.length Li) b::_):=s2.ae [11,2]
    have s4:=s3.two (C:=c9 (cs++[.int .i64 n,.int .i64 0,.bool true,.sl wid 0 b.length Li]) (acc++[⟨n,0,true,b⟩])) (bn.n_ _ _) (bn.cE _ _) fun a b q1 q2=>w8 q1 ⟨⟨⟨rfl,rfl,rfl⟩,q2⟩,aa⟩
    have s5:=cG.2 ⟨dv,s4.ae [6,6]⟩
    have s6:=dn.2 ⟨nv,s5.ae [6,6]⟩
    have s7:=(((s6.ae [3,2,0,0,2,2,2,2]).del 10).del 9).del 8
    dsimp only [bringA,getA,aZ] at s7
    refine ih (i+1) (acc++[⟨n,0,true,b⟩]) _ _ ε' _ _ Q (by omega) qQ mK (by simp; omega) s7 ⟨rfl,rfl,rfl,rfl,rfl,aa⟩ (fun e c' I E' h' ht he l2 l3 s' => ?_) (fun c' I E' h' Lh tR ht hl kK s' => ?_)
    ·exact hr e _ I E' h' (.whole n _ ε w b ε' e c' I J hb hd ht) he l2 l3 s'
    ·refine hx (⟨n,0,true,b⟩::c') I E' h' Lh tR (.whole n _ ε w b ε' 0 c' I J hb hd ht) (by simp at hl ⊢; omega) kK ?_
     rw [eO] at s'
     exact s'
theorem GX (hT:W told)(s:Sat h (fy g a now bI::dR a p q r op data bA::dG r p q ε.1::bW q p ε.2.1::bp p ε.2.2::S))(gT:ir ε)(hw:cj ε≤268435456)(I:∀e∈now,e.2.length=512)(hm:now.length≤65536)(hk:∀n∈now.map (·.1),(Lit.int .i64 n).wf=true):
  Call ⟨Tryz.prog,told⟩ 58 [.ptr g 0] h fun v h'=>∃e c ε',jg now (dQ now) ε e c ε' ∧
   ((e≠0∧v=.aX [.bu,.int .i64 e]∧Sat h' (fy g a now bI::dR a p q r op data bA::dG r p q ε'.1::bW q p ε'.2.1::bp p ε'.2.2::S)) ∨
    (e=0∧c.length≤33554432∧∃av cs,v=.aX [av,.int .i64 0]∧Sat h' (.arr 4 av cs::c9 cs c::fy g a now bI::dR a p q r op data bA::dG r p q ε'.1::bW q p ε'.2.1::bp p ε'.2.2::S))):=by
 have hl:(dQ now).length=now.length:=by rw [dQ,(e_ _).length_eq,eP]
 refine Call.of_wp (hT.free _ rfl) Tryz.func58 rfl rfl (zK 13 rfl (zc rfl (Jf hT s (by omega) hk) ?_))
 intro kv h s
 refine zo rfl (aV rfl rfl rfl (s.iL (n:=(dQ now).length) (j:=0) rfl (by simp [fS]) (by decide) dx)) ?_
 refine zk 2 rfl (WP.block ?_)
 have s1:=(((s.iP aa).qc (k:=4)).jH fun a b q=>q).ae [0,0,1,1,1,1,1,0]
 refine C6 hT (ks:=dQ now) (now:=now) (by omega) (fun n hn => ?_) I (dQ now).length 0 [] .bu [] ε _ _ _ (by omega) gT hw (by simp) s1 ⟨rfl,rfl,rfl,rfl,rfl,aa⟩ (fun e c ε' E' h' J he l2 l3 s' => ?_) (fun c ε' E' h' av cs J j4 kK s' => ?_)
 ·have:n∈now.map (·.1):=(e_ _).mem_iff.1 hn
  cases hq:lookL n now with
  | some _=>rfl
  | none=>exact absurd this (mR.1 hq)
 ·rw [eR] at J
  exact ⟨aa,_,Lf l2 l3,e,c,ε',J,.inl ⟨he,rfl,s'⟩⟩
 ·rw [eR] at J
  have s:=s'
  exact WP.has kK (zK 6 rfl (WP.ret ⟨aa,_,rfl,0,c,ε',J,.inr ⟨rfl,by simp at j4; omega,_,_,rfl,s⟩⟩))
end
theorem uW {b:List Nat}{n:Nat}(I:bP b=true): (cR b n).length=512:=by
 have J:=sW (n:=n) (gE I)
 rw [cR,ct (by rw [dy]; omega),J]
def gK (π:Pl)(n:Int)(b:List Nat)(aM:Nat): Int×Pl :=
 (if (jl π n b aM).1=0 then (unpinF (jl π n b aM).2 n).1 else (jl π n b aM).1,(unpinF (jl π n b aM).2 n).2)
def xm (π:Pl)(n:Int)(i:Nat)(f:Fm)(b:List Nat)(aM:Nat): Pl :=
 { π with ah:=π.ah.set i { f with b:=cR b aM,changed:=true,pins:=0 },bZ:=cY n (j6 π n aM,true) π.bZ }
theorem yU {π:Pl}{n:Int}{i:Nat}{f:Fm}{b:List Nat}{aM:Nat}(J:lookL n π.bg=some (i:Int))(I:π.ah[i]?=some f)(hp:f.pins=1)(hg:bP b=true): gK π n b aM=(0,xm π n i f b aM):=by
 have h1:=(qo J I hp).1
 have hi:=(List.getElem?_eq_some_iff.1 I).1
 have e1:jl π n b aM=(0,{ π with ah:=π.ah.set i { f with b:=cR b aM,changed:=true },bZ:=cY n (j6 π n aM,true) π.bZ }):=by
  simp only [jl,h1,I,hg,Bool.true_eq_false,bC]
 have e2:=(qo (π:={ π with ah:=π.ah.set i { f with b:=cR b aM,changed:=true },bZ:=cY n (j6 π n aM,true) π.bZ }) (n:=n) (f:={ f with b:=cR b aM,changed:=true }) J (gv hi) hp).2
 simp only [gK,e1,e2,bz,vt]
 rfl
theorem Jg {π:Pl}{n:Int}{i:Nat}{f:Fm}{b:List Nat}{aM:Nat}(J:lookL n π.bg=some (i:Int))(I:π.ah[i]?=some f)(hp:f.pins=1)(hg:bP b=false): gK π n b aM=(4,{ π with ah:=π.ah.set i { f with pins:=0 } }):=by
 have h1:=(qo J I hp).1
 have e1:jl π n b aM=(4,π):=by simp only [jl,h1,I,hg,bz]
 have e2:=(qo J I hp).2
 simp only [gK,e1,e2]
 rfl
theorem NN {π:Pl}{n:Int}{b:List Nat}{aM:Nat}(h:π.Ok): (jl π n b aM).2.Ok:=by
 unfold jl
 split
 ·exact h
 ·split
  ·exact h
  ·rename_i f J
   have hm:=bh J
   split
   ·exact h
   ·rename_i I
    have I:bP b=true:=by simpa using I
    exact h.set h.bg (by simp only [uW I]; omega) (h.pins f hm)
theorem ey.put {ε ε':aF}{n:Int}{b0 b:List Nat}{aM:Nat}(hr:ey ε n 0 b0 ε')(h:ir ε): ir ((gK ε'.1 n b aM).2,ε'.2)∧Am.cj ((gK ε'.1 n b aM).2,ε'.2)≤Am.cj ε+1∧(bP b=true→(gK ε'.1 n b aM).1=0):=by
 have I:=hr.ok h.ok h.pins
 have J:=(hr.full h.ok.dk h.full).1
 obtain ⟨i,f,h1,h2,h3,h4,h5⟩:=hr.at h.pins
 have hm:=bh h2
 have uX:=hr.cj
 cases hg:bP b with
 | true =>
  rw [yU h1 h2 h3 hg]
  refine ⟨⟨⟨I.pl.set I.pl.bg (by simp only [uW hg]; omega) (by simp),I.lg,I.dk⟩,h5 _ rfl,J.set h2 rfl fun _=>uW hg⟩,?_,fun _=>rfl⟩
  have h6:=ki (g:={ f with b:=cR b aM,changed:=true,pins:=0 }) h2
  simp only [Bool.toNat_true] at h6
  simp only [Am.cj,xm] at uX ⊢
  omega
 | false =>
  rw [Jg h1 h2 h3 hg]
  refine ⟨⟨⟨I.pl.set I.pl.bg (I.pl.len f hm) (by simp),I.lg,I.dk⟩,h5 _ rfl,J.set h2 rfl fun hl=>hl⟩,?_,fun h=>by cases h⟩
  have h6:=ki (g:={ f with pins:=0 }) h2
  simp only [Am.cj] at uX h6 ⊢
  omega
inductive ob (now:List (Int×List Nat))(aM:Nat): List Int→aF→Int→aF→Prop where
 | nil (ε:aF):ob now aM [] ε 0 ε
 | gu (n:Int) (l:List Int) (ε:aF) (e:Int) (b:List Nat) (ε':aF) (hr:ey ε n e b ε') (he:e≠0):ob now aM (n::l) ε e ε'
 | bad (n:Int) (l:List Int) (ε:aF) (b0 b:List Nat) (ε':aF) (hr:ey ε n 0 b0 ε') (hb:lookL n now=some b) (he:(gK ε'.1 n b aM).1≠0):ob now aM (n::l) ε (gK ε'.1 n b aM).1 ((gK ε'.1 n b aM).2,ε'.2)
 | put (n:Int) (l:List Int) (ε:aF) (b0 b:List Nat) (ε':aF) (e:Int) (jU:aF) (hr:ey ε n 0 b0 ε') (hb:lookL n now=some b) (he:(gK ε'.1 n b aM).1=0) (ht:ob now aM l ((gK ε'.1 n b aM).2,ε'.2) e jU):ob now aM (n::l) ε e jU
theorem ob.lK {now:List (Int×List Nat)}{aM:Nat}{l:List Int}{ε ε':aF}{e:Int}(I:ob now aM l ε e ε')(h:ir ε): ir ε':=by
 induction I with
 | nil ε=>exact h
 | gu n l ε e b ε' I he=>exact ⟨I.ok h.ok h.pins,I.Fp he h.pins,(I.full h.ok.dk h.full).1⟩
 | bad n l ε b0 b ε' I hb he=>exact (I.put h).1
 | put n l ε b0 b ε' e J I hb he ht ih=>exact ih (I.put h).1
theorem ob.cj {now:List (Int×List Nat)}{aM:Nat}{l:List Int}{ε ε':aF}{e:Int}(I:ob now aM l ε e ε')(h:ir ε): Am.cj ε'≤Am.cj ε+l.length:=by
 induction I with
 | nil ε=>exact aD _
 | gu n l ε e b ε' I he=>have:=I.cj; omega
 | bad n l ε b0 b ε' I hb he=>have:=(I.put (b:=b) (aM:=aM) h).2.1; simp only [aQ]; omega
 | put n l ε b0 b ε' e J I hb he ht ih=>have h1:=ih (I.put h).1; have:=(I.put (b:=b) (aM:=aM) h).2.1; simp only [aQ]; omega
theorem Rv {h:H}{id c:Nat}{es:fq}{n:Int}{u:V}{t kt et:TypeId}{k:IntKind}{z:V}(J:T.get h.tr id=some (.map (es.map sg) c))(he:lookE n es=some u)(hu:Tryz.prog.underlying t=some (.map kt et))(hk:Tryz.prog.underlying kt=some (.int k))(hz:zeroT Tryz.prog et=some z):
  dK Tryz.prog h t (.map id) (.int .i64 n) false=some u:=by
 have hi:=nV (n:=n) es 0
 simp only [dK,lookupV,hu,hk,hz,J,keyBeq,cQ,af,si]
 cases I:idxE n es 0 with
 | none=>rw [I] at hi; rw [he] at hi; cases hi
 | some q=>rw [I] at hi; rw [he] at hi; obtain ⟨j,w⟩:=q; have:=bG hi; simp only at this; subst this; rfl
section
variable {told:cK} {h:H} {S:List aq} {X Y:aq} {r k q p bJ a g bA:Nat} {op v x u wh di:V} {l b cT data:List Nat} {now:List (Int×List Nat)} {bI:Bool} {ε:aF}
noncomputable def Vt : Code:=gr [1,1,1,1,1,1,1,1,0,1,0,0] ((Tryz.f26.body).getD .skip)
theorem Jh (hT:W told){ks:List Int}{kv dv:V}{aM su c:Nat}{es:fq}(Vs:ks.length≤65536)(uV:∀n∈ks,(lookL n now).isSome=true)(tc:∀e∈now,e.2.length=512): ∀(j i:Nat) (ε:aF) (h:H) (E:List (Nat×V)) (Q:Ex→List (Nat×V)→H→Prop),i+j=ks.length →
  ir ε→cj ε+j≤268435456 →
  Sat h (pt g (.cells 3 [.ptr a 0,.map su,.bool bI] false)::iM su es c::fD (fun v b=>.cE v b) es now::pt a (.cells 6 (Fo a p q r op dv bA) false)::dG r p q ε.1::bW q p ε.2.1::bp p ε.2.2::.arr 1 kv (fS ks)::S) →
  Has E [(0,.ptr g 0),(6,.ptr a 0),(8,.int .u64 (aM:Int)),(73,kv),(74,.int .i64 ks.length),(75,.int .i64 i)] →
  (∀e ε' E' h',ob now aM (ks.drop i) ε e ε'→e≠0→look E' 4=some (.int .u64 0)→look E' 5=some (.int .i64 e)→Sat h' (pt g (.cells 3 [.ptr a 0,.map su,.bool bI] false)::iM su es c::fD (fun v b=>.cE v b) es now::pt a (.cells 6 (Fo a p q r op dv bA) false)::dG r p q ε'.1::bW q p ε'.2.1::bp p ε'.2.2::S)→Q .ret E' h') →
  (∀ε' E' h',ob now aM (ks.drop i) ε 0 ε'→Has E' [(8,.int .u64 (aM:Int))]→Sat h' (pt g (.cells 3 [.ptr a 0,.map su,.bool bI] false)::iM su es c::fD (fun v b=>.cE v b) es now::pt a (.cells 6 (Fo a p q r op dv bA) false)::dG r p q ε'.1::bW q p ε'.2.1::bp p ε'.2.2::S)→Q (.exit 1) E' h') →
  WP ⟨Tryz.prog,told⟩ 118 (.loop Vt) E h Q:=by
 intro j
 induction j with
 | zero =>
  intro i ε h E Q hj I hw s hE hr hx
  refine WP.loop (WP.has hE (zg rfl (zh rfl (ag rfl rfl bf) (by simp <;> omega) ?_)))
  refine zk 3 rfl (WP.exit ?_)
  rw [gh (by omega)] at hx
  exact hx ε _ _ (.nil ε) ⟨rfl,aa⟩ (s.del 7)
 | succ j ih =>
  intro i ε h E Q hj I hw s hE hr hx
  have hn:ks[i]?=some (ks[i]'(by omega)):=aY _
  have wU:ks[i]'(by omega)∈ks:=rN _
  have oP:ks.drop i=ks[i]'(by omega)::ks.drop (i+1):=vg (by omega)
  generalize (ks[i]'(by omega))=n at hn wU oP
  have hc:(fS ks)[i]?=some (.int .i64 n):=by simp [fS,hn]
  obtain ⟨b,hb⟩:=Option.isSome_iff_exists.1 (uV n wU)
  have BT:=tc _ (jT hb)
  simp only at BT
  rw [oP] at hr hx
  obtain ⟨id,off,e1,e2⟩:=jK (P:=Tryz.prog) s (k:=7) rfl hc dx mh
  refine WP.loop (WP.has hE (zg rfl (zt rfl (ag rfl rfl bf) (by simp <;> omega) ?_)))
  refine zk 5 rfl (WP.block (zg rfl (zo rfl (dm (r:=.ptr id off) rfl rfl e1) (zl rfl (e2 _ eM) (zk 7 rfl (zf rfl (pI _ _) (zl rfl (s.ld (k:=3) rfl vI rfl) (zm rfl (zc rfl (I9 (n:=n) hT (s.ae [4,4,4]) I.ok.pl I.pins I.ok.lg I.ok.dk (by have:=qq (ε:=ε); omega)) ?_)))))))))
  rintro v h ⟨e,b0,ε',C7,(⟨he,rfl,s⟩ | ⟨rfl,u0,rfl,s⟩)⟩
  ·dsimp only [bringA,getA,aZ] at s
   refine zk 9 rfl (zt rfl (ag rfl rfl aL) (by simp; exact he) ?_)
   exact zk 8 rfl (WP.ret (hr e ε' _ _ (.gu n _ ε e b0 ε' C7 he) he rfl rfl ((s.ae [3,3,3,3,0,0,0]).del 7)))
  ·dsimp only [bringA,getA,aZ] at s
   have s:=s.drop
   have GY:=C7.put (b:=b) (aM:=aM) I
   have uN:=C7.ok I.ok I.pins
   refine zk 9 rfl (zh rfl (ag rfl rfl aL) (rfl) (zk 4 rfl ?_))
   have s1:Sat h (fD (fun v b=>.cE v b) es now::_):=s.ae [5]
   obtain ⟨_,_,_,_,q3⟩:=s1.at (k:=0) rfl
   rcases oN (n:=n) q3 with ⟨_,q4⟩ | ⟨u,b',g1,g2,_⟩
   ·rw [hb] at q4; cases q4
   rw [hb] at g2
   have:=bG g2
   subst this
   have s2:=(s1.dup (bn.KN (fun _ _=>bn.cE _ _) _ _)).jH (B:=.cE u b) fun a' b' h'=>by
    rcases oN (n:=n) h' with ⟨_,q4⟩ | ⟨u',RU,Sw,Sx,PJ⟩
    ·rw [hb] at q4; cases q4
    ·rw [g1] at Sw; rw [hb] at Sx
     have h5:=bG Sw
     have h6:=bG Sx
     subst h5; subst h6
     exact PJ
   dsimp only [bringA,getA,aZ] at s2
   obtain ⟨uid,Wt,Wu,rfl⟩:=gD (s2.aH (k:=0) rfl (dZ _ _)) (by omega)
   have s:=s2.ae [2,0]
   dsimp only [bringA,getA,aZ] at s
   have s0:=s
   refine WP.drawn [ak,ak,ak,ak,ak,ak,ak,ak,ak,ak,ak,ak,ak,ak] rfl (by kernel_rfl) (by kernel_rfl) ?_
   refine zM rfl (zN rfl (zF rfl (pI _ _) (zL rfl (s.ld (k:=7) rfl vI rfl) (zM rfl (zM rfl (zN rfl (zF rfl (nC _ _) (zL rfl (s.ld (k:=5) rfl lM rfl) (zM rfl (zO rfl (iK rfl rfl (Rv (s.row (k:=6) rfl) g1 nY bN nA)) (zM rfl (aB.any rfl rfl rfl rfl (OpR.call rfl rfl rfl rfl (NH (n:=n) (aM:=aM) (b:=b) hT s (dZ _ _) uN.pl (by omega))) ?_))))))))))))
   rintro v h ⟨rfl,s⟩
   refine zA rfl ?_
   refine aB.nil ⟨⟨aa,aa,aa,aa,aa,aa,aa,aa,aa,aa,aa,aa,aa,aa,aa⟩,?_⟩
   refine zK 5 rfl (zf rfl (pI _ _) (zl rfl (s.ld (k:=7) rfl vI rfl) (zm rfl (zc rfl (C2 (n:=n) hT s (NN uN.pl)) ?_))))
   rintro v h ⟨rfl,s⟩
   refine zk 5 rfl ?_
   by_cases hg:(jl ε'.1 n b aM).1=0
   ·have Fu:(gK ε'.1 n b aM).1=(unpinF (jl ε'.1 n b aM).2 n).1:=by simp only [gK,hg,bz]
    have Mx:(gK ε'.1 n b aM).2=(unpinF (jl ε'.1 n b aM).2 n).2:=rfl
    rw [←Fu,←Mx] at *
    refine zt rfl (ag rfl rfl gC) (by simp; exact hg) ?_
    refine zk 9 rfl ?_
    by_cases he:(gK ε'.1 n b aM).1=0
    ·skip
     refine zh rfl (ag rfl rfl aL) (by simp; exact he) ?_
     refine zv (zj rfl (WP.skip (zr rfl (zb rfl (by exact bB (aC (by omega) (by omega))) ?_))))
     refine zm rfl (zv ?_)
     have s9:=(s.ae [5,5,2,4,0,1,1,1]).del 8
     refine ih (i+1) ((gK ε'.1 n b aM).2,ε'.2) _ _ Q (by omega) GY.1 (by have h9:cj ((gK ε'.1 n b aM).2,ε'.2)≤cj ε+1:=GY.2.1; omega) s9 ⟨rfl,rfl,rfl,rfl,rfl,rfl,aa⟩ (fun e J E' h' ht xQ l4 l5 s' => ?_) (fun J E' h' ht kK s' => ?_)
     ·exact hr e J E' h' (.put n _ ε b0 b ε' e J C7 hb he ht) xQ l4 l5 s'
     ·exact hx J E' h' (.put n _ ε b0 b ε' 0 J C7 hb he ht) kK s'
    ·skip
     refine zt rfl (ag rfl rfl aL) (by simp; exact he) ?_
     exact zk 8 rfl (WP.ret (hr _ _ _ _ (.bad n _ ε b0 b ε' C7 hb he) he rfl rfl (((s.ae [5,5,2,4,0,1,1,1]).del 8).del 7)))
   ·have Fu:(gK ε'.1 n b aM).1=(jl ε'.1 n b aM).1:=by simp only [gK,hg,bC]
    have Mx:(gK ε'.1 n b aM).2=(unpinF (jl ε'.1 n b aM).2 n).2:=rfl
    rw [←Fu] at hg
    refine zh rfl (ag rfl rfl gC) (by simp; rw [←Fu]; exact hg) ?_
    refine zk 6 rfl (zt rfl (ag rfl rfl aL) (by simp; rw [←Fu]; exact hg) ?_)
    refine zk 8 rfl (WP.ret (hr _ _ _ _ (.bad n _ ε b0 b ε' C7 hb hg) hg rfl (by rw [Fu]; rfl) ?_))
    exact ((s.ae [5,5,2,4,0,1,1,1]).del 8).del 7
end
end Go.Proofs.YtefepnnfphdkpaaGreat.Am
