/- ChainFull: a part of its proof; conditions: its statement's. -/
import Derived.Test.YtefepnnfphdkpaaGreatD24
namespace Go.Proofs.YtefepnnfphdkpaaGreat.Am
open Go
inductive uV (bg:Int)(c6 now:List Nat): Nat→List dr→Prop where
 | done (i:Nat) (h:now.length≤i):uV bg c6 now i []
 | skip (i:Nat) (l:List dr) (h:i<now.length) (he:c6[i]?=now[i]?) (hr:uV bg c6 now (i+1) l):uV bg c6 now i l
 | take (i e:Nat) (l:List dr) (h1:i<e) (h2:e≤now.length) (h3:c6[i]?≠now[i]?) (h4:∀k,e≤k→k<e+8→c6[k]?=now[k]?) (hr:uV bg c6 now e l):uV bg c6 now i (⟨bg,i,false,(now.take e).drop i⟩::l)
def KN (bg:Int)(c6 now:List Nat)(c:List dr): Prop:=∃l,uV bg c6 now 12 l∧c=if l=[] then [⟨bg,0,false,[]⟩] else l
theorem yN : ∃i,Tryz.prog.info? 180=some i∧i.size=4∧i.bytes=48 :=
 ⟨_,(show Tryz.prog.info? 180=some ((Tryz.prog.info? 180).getD default) by kernel_rfl),by kernel_rfl,by kernel_rfl⟩
section
variable {told:cz} {h:H} {S:List aq} {X Y:aq} {r k q p bQ a g bf:Nat} {op v x u wh di:V} {l b c6 now:List Nat}
noncomputable def X6 : Code:=eC [1,1,0,1,0,0] ((Tryz.f115.body).getD .skip)
noncomputable def X7 : Code:=eC [1,1,0,1,0,0,1,0,1,1,0,1,0,0] ((Tryz.f115.body).getD .skip)
theorem MX {pg:Int}{I:Nat}{t7:V}{k1 k2:Nat}(s:Sat h S)(xS:getA S k1=some X)(hX:cT X (cY u c6))(Kl:getA S k2=some Y)(hY:cT Y (cY v now))(Ay:c6.length=512)(js:now.length=512): ∀(j i e:Nat) (E:List (Nat×V)) (Q:Ex→List (Nat×V)→H→Prop),i+j=512→I<e→e≤i→(∀k,e≤k→k<i→c6[k]?=now[k]?) →
  Has E [(0,.int .i64 pg),(1,u),(2,v),(7,t7),(8,.int .i64 (I:Int)),(9,.int .i64 (e:Int)),(10,.int .i64 (i:Int))] →
  (∀J E',I<J→J≤512→(∀k,J≤k→k<J+8→c6[k]?=now[k]?)→Has E' [(0,.int .i64 pg),(1,u),(2,v),(7,t7),(8,.int .i64 (I:Int)),(9,.int .i64 (J:Int))]→Q (.exit 2) E' h) →
  WP ⟨Tryz.prog,told⟩ 71 (.loop X7) E h Q:=by
 have hv:=s.aG Kl hY
 have hu:=s.aG xS hX
 have hlen:lenV Tryz.prog h 28 v=some (.int .i64 now.length):=aW aJ hv
 intro j
 induction j with
 | zero =>
  intro i e E Q hi h1 h2 hg hE hq
  refine WP.loop (WP.has hE (zK 5 rfl (zo rfl (aO rfl rfl rfl hlen) (zh rfl (ag rfl rfl aR) (by simp <;> omega) ?_))))
  refine zk 8 rfl (WP.exit ?_)
  refine hq e _ h1 (by omega) (fun k k1 _ => ?_) ⟨rfl,rfl,rfl,rfl,rfl,rfl,aa⟩
  by_cases hk:k<i
  ·exact hg k k1 hk
  ·rw [qj (by omega),qj (by omega)]
 | succ j ih =>
  intro i e E Q hi h1 h2 hg hE hq
  have hb:now[i]?=some (now[i]'(by omega)):=aM _
  generalize (now[i]'(by omega))=b at hb
  have hc:c6[i]?=some (c6[i]'(by omega)):=aM _
  generalize (c6[i]'(by omega))=c at hc
  obtain ⟨id,off,e1,e2⟩:=dI hv hb
  obtain ⟨xY,off',e3,e4⟩:=dI hu hc
  refine WP.loop (WP.has hE (zK 5 rfl (zo rfl (aO rfl rfl rfl hlen) (zt rfl (ag rfl rfl aR) (by simp <;> omega) ?_))))
  refine zk 3 rfl (zb rfl (by exact bp (aA (by omega) (by omega))) ?_)
  by_cases hd:i<e+8
  ·skip
   refine zt rfl (ag rfl rfl aR) (by simp <;> omega) ?_
   refine zk 5 rfl (WP.block (zw ?_))
   have s0:=s
   refine WP.drawn [ak,ak,ak,ak,ak,ak,ak,ak,ak] rfl (by kernel_rfl) (by kernel_rfl) ?_
   refine zM rfl (zM rfl (zO rfl (cn (r:=.ptr xY off') rfl rfl e3) (zL rfl e4 (zM rfl (zM rfl (zO rfl (cn (r:=.ptr id off) rfl rfl e1) (zL rfl e2 ?_)))))))
   by_cases G0:c=b
   ·skip
    refine aB.nE rfl rfl rfl rfl (ag rfl rfl aI) (by simp; exact_mod_cast G0) ?_
    refine aB.nil ⟨⟨aa,aa,aa,aa,aa,aa,aa,aa,aa,aa⟩,?_⟩
    refine zj rfl (WP.skip (zr rfl (zm rfl (zb rfl (by exact bp (aA (by omega) (by omega))) ?_))))
    refine za rfl (zv ?_)
    exact ih (i+1) e _ Q (by omega) h1 (by omega) (fun k k1 k2=>(by
     rcases iD k i with h | h
     ·exact hg k k1 h
     ·rw [show k=i by omega,hb,hc,G0])) ⟨rfl,rfl,rfl,rfl,rfl,rfl,rfl,aa⟩ hq
   ·skip
    refine aB.yc rfl rfl rfl rfl (ag rfl rfl aI) (by simp; omega) ?_
    refine aB.nil ⟨⟨aa,aa,aa,aa,aa,aa,aa,aa,aa,aa⟩,?_⟩
    refine zK 3 rfl (zb rfl (by exact bp (aA (by omega) (by omega))) ?_)
    refine za rfl (zv (zr rfl (zm rfl (zb rfl (by exact bp (aA (by omega) (by omega))) ?_))))
    refine za rfl (zv ?_)
    exact ih (i+1) (i+1) _ Q (by omega) (by omega) (by omega) (fun k k1 k2=>absurd k2 (by omega)) ⟨rfl,rfl,rfl,rfl,rfl,rfl,rfl,aa⟩ hq
  ·skip
   refine zh rfl (ag rfl rfl aR) (by simp <;> omega) ?_
   exact zk 3 rfl (WP.exit (hq e _ h1 (by omega) (fun k k1 k2=>hg k k1 (by omega)) ⟨rfl,rfl,rfl,rfl,rfl,rfl,aa⟩))
theorem MY (hT:W told){pg:Int}(hX:cT X (cY u c6))(hY:cT Y (cY v now))(Ay:c6.length=512)(js:now.length=512): ∀(j i:Nat) (acc:List dr) (av:V) (cs:List V) (h:H) (E:List (Nat×V)) (Q:Ex→List (Nat×V)→H→Prop),512≤i+j→i≤512→acc.length≤i →
  Sat h (.arr 4 av cs::dx cs acc::X::Y::S)→(∀l,uV pg c6 now i l→uV pg c6 now 12 (acc++l)) →
  Has E [(0,.int .i64 pg),(1,u),(2,v),(7,av),(8,.int .i64 (i:Int))] →
  (∀uW cs' l E' h',uV pg c6 now 12 l→l.length≤512→Sat h' (.arr 4 uW cs'::dx cs' l::X::Y::S)→Has E' [(0,.int .i64 pg),(7,uW)]→Q (.exit 0) E' h') →
  WP ⟨Tryz.prog,told⟩ 71 (.loop X6) E h Q:=by
 intro j
 induction j with
 | zero =>
  intro i acc av cs h E Q hj hi Sk s I hE hq
  have hlen:lenV Tryz.prog h 28 v=some (.int .i64 now.length):=aW aJ (s.aG (k:=3) rfl hY)
  refine WP.loop (WP.has hE (zK 5 rfl (zo rfl (aO rfl rfl rfl hlen) (zh rfl (ag rfl rfl aR) (by simp <;> omega) ?_))))
  refine zk 2 rfl (WP.exit ?_)
  have:=I [] (.done _ (by omega))
  rw [ff] at this
  exact hq av cs acc _ _ this (by omega) s ⟨rfl,rfl,aa⟩
 | succ j ih =>
  intro i acc av cs h E Q hj hi Sk s I hE hq
  have hv:=s.aG (k:=3) rfl hY
  have hu:=s.aG (k:=2) rfl hX
  have hlen:lenV Tryz.prog h 28 v=some (.int .i64 now.length):=aW aJ hv
  by_cases aY:i<512
  ·have hb:now[i]?=some (now[i]'(by omega)):=aM _
   generalize (now[i]'(by omega))=b at hb
   have hc:c6[i]?=some (c6[i]'(by omega)):=aM _
   generalize (c6[i]'(by omega))=c at hc
   obtain ⟨id,off,e1,e2⟩:=dI hv hb
   obtain ⟨xY,off',e3,e4⟩:=dI hu hc
   refine WP.loop (WP.has hE (zK 5 rfl (zo rfl (aO rfl rfl rfl hlen) (zt rfl (ag rfl rfl aR) (by simp <;> omega) ?_))))
   refine zk 3 rfl (WP.block (zK 2 rfl ?_))
   have s0:=s
   refine WP.drawn [ak,ak,ak,ak,ak,ak,ak,ak,ak] rfl (by kernel_rfl) (by kernel_rfl) ?_
   refine zM rfl (zM rfl (zO rfl (cn (r:=.ptr xY off') rfl rfl e3) (zL rfl e4 (zM rfl (zM rfl (zO rfl (cn (r:=.ptr id off) rfl rfl e1) (zL rfl e2 ?_)))))))
   by_cases G0:c=b
   ·skip
    refine aB.yc rfl rfl rfl rfl (ag rfl rfl e_) (by simp; exact_mod_cast G0) ?_
    refine aB.nil ⟨⟨aa,aa,aa,aa,aa,aa,aa,aa,aa,aa⟩,?_⟩
    refine zK 4 rfl (zb rfl (by exact bp (aA (by omega) (by omega))) ?_)
    exact zk 2 rfl (WP.exit (ih (i+1) acc av cs h _ Q (by omega) (by omega) (by omega) s (fun l hl=>I l (.skip i l (by omega) (by rw [hb,hc,G0]) hl)) ⟨rfl,rfl,rfl,rfl,rfl,aa⟩ hq))
   ·skip
    refine aB.nE rfl rfl rfl rfl (ag rfl rfl e_) (by simp; omega) ?_
    refine aB.nil ⟨⟨aa,aa,aa,aa,aa,aa,aa,aa,aa,aa⟩,?_⟩
    refine zK 5 rfl (zb rfl (by exact bp (aA (by omega) (by omega))) ?_)
    refine zk 8 rfl (WP.block ?_)
    refine MX s (k1:=2) (k2:=3) rfl hX rfl hY Ay js (512-(i+1)) (i+1) (i+1) _ _ (by omega) (Bb i) (aD _) (fun k k1 k2=>absurd k2 (by omega)) ⟨rfl,rfl,rfl,rfl,rfl,rfl,rfl,aa⟩ (fun e' E' Sl G1 X8 lI => ?_)
    refine WP.has lI ?_
    have X9:=iS hv (a:=i) (b:=e') (by omega) (by omega)
    refine zK 8 rfl (zo rfl (eF (p:=some (.int .i64 (i:Int))) (q:=some (.int .i64 (e':Int))) (m:=none) (p':=some i) (q':=some e') (m':=none) rfl rfl rfl rfl (by rw [fB (by omega)]; rfl) (by rw [fB (by omega)]; rfl) rfl X9.1) ?_)
    refine zc rfl (qd hT (s.ae [3]) (uu hY (a:=i) (b:=e') (by omega) (by omega)) (by simp; omega)) ?_
    intro w h s
    dsimp only [bringA,getA,aZ] at s
    obtain ⟨wid,_,J,_,rfl,_⟩:=s.eH (by simp; omega)
    have s:=s.gS
    generalize Oa:(now.take e').drop i=bs at s
    refine zo rfl (cM rfl (by rw [Ik]; rfl)) ?_
    obtain ⟨rv,h1,AJ,s1⟩:=ku (P:=Tryz.prog) (k:=4) (x:=.agg [.int .i64 pg,.int .i64 (i:Int),.bool false,.sl wid 0 bs.length J]) s jm rZ xx rfl (by decide) (by decide) rfl rfl
    dsimp only [V.cells] at s1
    refine az.any rfl rfl rfl (OpR.of (R:=fun v h'=>v=rv∧h'=h1) (kg rfl AJ) ⟨rfl,rfl⟩) ?_
    rintro v' h' ⟨rfl,rfl⟩
    obtain ⟨i1,iy,fF,pP⟩:=yN
    have ik:cs.length=acc.length*4:=by
     obtain ⟨a,b,q1,q2,q3⟩:=s1.at (k:=4) rfl
     exact oE q3
    obtain ⟨uW,h2,tQ,s2⟩:=fS (s1.ae [3,0]) jm iy rZ fF (by omega) rfl (by decide) (by simp only [aN,bG]; omega)
    dsimp only [bringA,getA,aZ] at s2
    refine az.any rfl rfl rfl (OpR.of (R:=fun v h'=>v=uW∧h'=h2) (jL rfl rfl tQ) ⟨rfl,rfl⟩) ?_
    rintro v' h' ⟨rfl,rfl⟩
    refine za rfl (zv (zr rfl (zk 2 rfl (zv ?_))))
    have s3:Sat _ (dx cs acc::.cy (.sl wid 0 bs.length J) bs::_):=s2.ae [4,2]
    have s4:=s3.two (C:=dx (cs++[.int .i64 pg,.int .i64 (i:Int),.bool false,.sl wid 0 bs.length J]) (acc++[⟨pg,i,false,bs⟩])) (aQ.o5 _ _) (aQ.cy _ _) fun a b q1 q2=>yH q1 ⟨⟨⟨rfl,rfl,rfl⟩,q2⟩,aa⟩
    have s5:=(s4.ae [1,0,2,1]).del 4
    dsimp only [bringA,getA,aZ] at s5
    refine ih e' (acc++[⟨pg,(i:Int),false,bs⟩]) _ _ _ _ Q (by omega) G1 (by simp; omega) s5 (fun l hl => ?_) ⟨rfl,rfl,rfl,rfl,rfl,aa⟩ hq
    have:=I _ (.take i e' l Sl (by omega) (fun hx=>by rw [hb,hc] at hx; exact G0 (bE hx)) X8 hl)
    rw [Oa] at this
    rwa [ep]
  ·have Z2:i=512:=by omega
   refine WP.loop (WP.has hE (zK 5 rfl (zo rfl (aO rfl rfl rfl hlen) (zh rfl (ag rfl rfl aR) (by simp <;> omega) ?_))))
   refine zk 2 rfl (WP.exit ?_)
   have:=I [] (.done _ (by omega))
   rw [ff] at this
   exact hq av cs acc _ _ this (by omega) s ⟨rfl,rfl,aa⟩
theorem KO (hT:W told){pg:Int}(s:Sat h (X::Y::S))(hX:cT X (cY u c6))(hY:cT Y (cY v now))(J:c6.length=512)(js:now.length=512):
  Call ⟨Tryz.prog,told⟩ 115 [.int .i64 pg,u,v] h fun w h'=>∃cs l,KN pg c6 now l∧l.length≤512∧Sat h' (.arr 4 w cs::dx cs l::X::Y::S):=by
 refine Call.of_wp (hT.free _ rfl) Tryz.func115 rfl rfl (zK 13 rfl (WP.block ?_))
 refine MY hT (pg:=pg) hX hY J js 500 12 [] .bn [] _ _ _ (by omega) (by omega) (by simp) ((s.gy aa).mB) (fun l hl=>hl) ⟨rfl,rfl,rfl,rfl,rfl,aa⟩ (fun uW cs' l E' h' hr UU s' lI => ?_)
 have s:=s'
 have hlen:=s.vW (j1:=0) (j2:=1) rfl rfl jm
 have OC:=s.kV (j:=0) rfl
 refine WP.has lI (zK 4 rfl (zo rfl (aO rfl rfl rfl hlen) ?_))
 by_cases I:l=[]
 ·skip
  refine zt rfl (ag rfl rfl e_) (by subst I; rfl) ?_
  refine zk 5 rfl (zo rfl (cM rfl (by rw [Ik]; rfl)) ?_)
  obtain ⟨rv,h1,AJ,s1⟩:=ku (P:=Tryz.prog) (k:=4) (x:=.agg [.int .i64 pg,.int .i64 0,.bool false,.bn]) s jm rZ xx rfl (by decide) (by decide) rfl rfl
  dsimp only [V.cells] at s1
  refine az.any rfl rfl rfl (OpR.of (R:=fun v h'=>v=rv∧h'=h1) (kg rfl AJ) ⟨rfl,rfl⟩) ?_
  rintro v' h' ⟨rfl,rfl⟩
  refine zk 2 rfl (WP.ret ⟨aa,_,rfl,?_⟩)
  refine ⟨[.int .i64 pg,.int .i64 0,.bool false,.bn],[⟨pg,0,false,[]⟩],⟨l,hr,by rw [ax I]⟩,by simp,?_⟩
  have s2:=(s1.del 2).del 1
  have s3:Sat _ (.cy .bn []::.arr 4 v' _::X::Y::S):=s2.r5
  have s4:=s3.hU (B:=dx [.int .i64 pg,.int .i64 0,.bool false,.bn] [⟨pg,0,false,[]⟩]) fun a b q=>⟨⟨⟨rfl,rfl,rfl⟩,q⟩,aa⟩
  exact s4.ae [1,0]
 ·skip
  refine zh rfl (ag rfl rfl e_) (by cases l with | nil=>exact absurd rfl I | cons _ _=>simp; omega) ?_
  exact zk 8 rfl (WP.ret ⟨aa,_,rfl,_,l,⟨l,hr,by rw [ai I]⟩,UU,s⟩)
end
def gp (m:List Fm): Nat:=(m.map (·.changed)).count true
theorem kS {f g:Fm}: ∀ {m:List Fm} {i:Nat},m[i]?=some f→gp (m.set i g)+f.changed.toNat=gp m+g.changed.toNat:=by
 intro m
 induction m with
 | nil=>intro i h; simp at h
 | cons x m I =>
  intro i h
  cases i with
  | zero =>
   simp at h
   subst h
   simp only [gp,List.set_cons_zero,cu,List.count_cons]
   cases x.changed <;> cases g.changed <;> simp
  | succ i =>
   rw [j4] at h
   have:=I h
   simp only [gp,A7,cu,List.count_cons] at this ⊢
   omega
theorem AK {g:Fm}(I:g.changed=false): ∀ {m:List Fm} {i:Nat},gp (m.set i g)≤gp m:=by
 intro m i
 cases h:m[i]? with
 | none =>
  have:m.length≤i:=by simpa using h
  rw [List.set_eq_of_length_le this]
  exact aD _
 | some f =>
  have:=kS (g:=g) h
  rw [I] at this
  simp only [Bool.toNat_false] at this
  omega
def cA (ε:aF): Nat:=ε.2.2.waiting.length+gp ε.1.ah
theorem rG {ε:aF}: ε.2.2.waiting.length≤cA ε:=Bc _ _
theorem eN.count {π I:Pl}(J:eN π I): gp I.ah=gp π.ah:=by
 have:I.ah.map (·.changed)=π.ah.map (·.changed):=by
  refine qo fun i => ?_
  rw [gI,gI]
  cases h:π.ah[i]? with
  | none =>
   have h1:π.ah.length≤i:=by simpa using h
   have:I.ah[i]?=none:=by simp [J.len,h1]
   rw [this]
  | some f =>
   obtain ⟨t,ht⟩:=J.get i f h
   rw [ht]; rfl
 simp only [gp,this]
theorem Ej {δ:Dk}{n:Int}{b:List Nat}(h:(δ.cU n b).1≠0): (δ.cU n b).2.waiting=δ.waiting:=by
 unfold Dk.cU at h ⊢
 split
 ·rfl
 ·rename_i I
  rw [ai I] at h
  split
  ·rfl
  ·rename_i J
   rw [ai J] at h
   split
   ·rfl
   ·rename_i h3
    rw [ai h3] at h
    exact absurd rfl h
theorem MZ {ε:aF}{i:Nat}: cA (outF ε i).2≤cA ε:=by
 unfold outF
 split
 ·exact aD _
 ·rename_i f J
  split
  ·exact aD _
  ·rename_i I
   have I:f.changed=true:=by cases h:f.changed <;> simp [h] at I ⊢
   split
   ·exact aD _
   ·split
    ·simp only [cA,nM]; exact aD _
    ·split
     ·rename_i hw
      simp only [cA,Ej hw,nM]; exact aD _
     ·have h1:=FN (δ:=(bT ε.2 (cQ f.b 4 8)).2.2) (n:=f.bg) (b:=f.b)
      rw [nM] at h1
      have h2:=kS (g:={ f with changed:=false }) J
      simp only [I,Bool.toNat_true,Bool.toNat_false] at h2
      simp only [cA]
      omega
theorem we {π:Pl}{i:Nat}{f:Fm}: gp (cF π i f).ah≤gp π.ah:=AK rfl
theorem eO.cA {ε ε':aF}{n e:Int}{b:List Nat}(hr:eO ε n e b ε'): Am.cA ε'≤Am.cA ε:=by
 have oG:∀ {I:Pl},eN ε.1 I→∀i,Am.cA (outF (I,ε.2) i).2≤Am.cA ε:=fun {I} J i=>by
  have:=MZ (ε:=(I,ε.2)) (i:=i)
  refine cg this ?_
  simp only [Am.cA,J.count]
  exact aD _
 cases hr with
 | arg _=>exact aD _
 | AF i f h1 h2 hl hf =>
  have h2:=kS (g:={ f with dP:=true,pins:=f.pins+1 }) hf
  simp only [Am.cA] at h2 ⊢
  omega
 | out I i f h1 h2 hl J hf hh he=>exact oG J i
 | read I i f h1 h2 hl J hf hh he hr=>exact cg (wN we _) (oG J i)
 | bad I i f h1 h2 hl J hf hh he hr hc=>exact cg (wN we _) (oG J i)
 | load I i f h1 h2 hl J hf hh he hr hc=>exact cg (wN (cg (AK rfl) we) _) (oG J i)
theorem AL {π:Pl}{n:Int}: gp (unpinF π n).2.ah=gp π.ah:=by
 unfold unpinF
 split
 ·rfl
 ·split
  ·rfl
  ·rename_i i hi f I
   have J:=kS (g:={ f with pins:=f.pins-1 }) I
   simp only at J ⊢
   omega
theorem k9.cA {ε ε':aF}{n e:Int}{b:List Nat}(I:k9 ε n e b ε'): Am.cA ε'≤Am.cA ε:=by
 cases I with
 | dead _=>exact aD _
 | gU e b ε' hd I he=>exact I.cA
 | qh b ε' hd I he=>have:=I.cA; simp only [Am.cA,AL] at this ⊢; exact this
 | read b ε' hd I he=>have:=I.cA; simp only [Am.cA,AL] at this ⊢; exact this
theorem nj.cA {ε ε':aF}{now:List (Int×List Nat)}{bL:Bool}{n e:Int}{b:List Nat}(I:nj ε now bL n e b ε'): Am.cA ε'≤Am.cA ε:=by
 cases I with
 | arg _=>exact aD _
 | bL _ _ _=>exact aD _
 | own _ _ _ _ _=>exact aD _
 | read e b ε' J h2 h3 hl I=>exact I.cA
theorem rF.cA {ε ε':aF}{now bI:List (Int×List Nat)}{bL:Bool}{n e:Int}{b:List Nat}(I:rF ε now bL n b e bI ε'): Am.cA ε'≤Am.cA ε:=by
 cases I with
 | may e c ε' I he=>exact I.cA
 | bad c ε' I J=>exact I.cA
 | done c ε' I J=>exact I.cA
inductive jN (now:List (Int×List Nat)): List Int→aF→Int→List dr→aF→Prop where
 | nil (ε:aF):jN now [] ε 0 [] ε
 | err (n:Int) (l:List Int) (ε:aF) (e:Int) (b:List Nat) (ε':aF) (hr:k9 ε n e b ε') (he:e≠0):jN now (n::l) ε e [] ε'
 | part (n:Int) (l:List Int) (ε:aF) (c6 b:List Nat) (ε':aF) (c:List dr) (e:Int) (cs:List dr) (kF:aF) (hr:k9 ε n 0 c6 ε') (hb:lookL n now=some b) (hd:(lookL n ε'.1.ck).isSome=true) (hc:KN n c6 b c) (hl:c.length≤512) (ht:jN now l ε' e cs kF):jN now (n::l) ε e (c++cs) kF
 | whole (n:Int) (l:List Int) (ε:aF) (c6 b:List Nat) (ε':aF) (e:Int) (cs:List dr) (kF:aF) (hr:k9 ε n 0 c6 ε') (hb:lookL n now=some b) (hd:(lookL n ε'.1.ck).isSome=false) (ht:jN now l ε' e cs kF):jN now (n::l) ε e (⟨n,0,true,b⟩::cs) kF
theorem jN.mE {now:List (Int×List Nat)}{l:List Int}{ε ε':aF}{e:Int}{cs:List dr}(I:jN now l ε e cs ε')(h:iT ε): iT ε':=by
 induction I with
 | nil ε=>exact h
 | err n l ε e b ε' I he=>exact I.mE h
 | part n l ε c6 b ε' c e cs J I hb hd hc hl ht ih=>exact ih (I.mE h)
 | whole n l ε c6 b ε' e cs J I hb hd ht ih=>exact ih (I.mE h)
theorem jN.cA {now:List (Int×List Nat)}{l:List Int}{ε ε':aF}{e:Int}{cs:List dr}(I:jN now l ε e cs ε'): Am.cA ε'≤Am.cA ε:=by
 induction I with
 | nil ε=>exact aD _
 | err n l ε e b ε' I he=>exact I.cA
 | part n l ε c6 b ε' c e cs J I hb hd hc hl ht ih=>exact cg ih I.cA
 | whole n l ε c6 b ε' e cs J I hb hd ht ih=>exact cg ih I.cA
theorem IL {P:Program}{E:List (Nat×V)}{h:H}{a b:Nat}{v w:V}(I:look E a=some v)(J:look E b=some w): jZ P E h [.tmp a,.tmp b]=some (.aX [v,w]):=by simp only [jZ,mapO,resE,I,J]
section
variable {told:cz} {h:H} {S:List aq} {X Y:aq} {r k q p bQ a g bf:Nat} {op v x u wh di:V} {l b c6 data:List Nat} {now:List (Int×List Nat)} {bL:Bool} {ε:aF}
theorem yO (I:W told){id:Nat}(s:Sat h S): Call ⟨Tryz.prog,told⟩ 62 [.map id] h fun v h'=>∃b,v=.fn (.func 120) [] [.ptr b 0]∧Sat h' (pt b (.cells 1 [.map id] false)::S):=by
 refine Call.of_wp (I.free _ rfl) Tryz.func62 rfl rfl (zg rfl ?_)
 refine az.cJ s rfl rfl rfl (fR rfl rfl) (fun J h s => ?_)
 exact zk 4 rfl (zo rfl (H7 rfl rfl) (zk 2 rfl (WP.ret ⟨aa,_,rfl,_,rfl,s⟩)))
theorem KP (I:W told)(s:Sat h (fy g a now bL::S))(hm:now.length≤1048576)(hk:∀n∈now.map (·.1),(Lit.int .i64 n).wf=true):
  Call ⟨Tryz.prog,told⟩ 112 [.ptr g 0] h fun v h'=>Sat h' (.arr 1 v (gr (ei now))::fy g a now bL::S):=by
 obtain ⟨nv,s⟩:=dD.1 s
 obtain ⟨J,rfl⟩:=DT s (j:=1) rfl
 refine Call.of_wp (I.free _ rfl) Tryz.func112 rfl rfl (zK 8 rfl (zf rfl (oA _ _) (zl rfl (s.ld (k:=0) rfl mF rfl) (zc rfl (yO I s) ?_))))
 rintro v h ⟨b,rfl,s⟩
 refine zc rfl (v8 I (s.ae [0,1]) (by decide) hm hk) ?_
 intro kv h s
 exact zk 2 rfl (WP.ret ⟨aa,_,rfl,(dD.2 ⟨.map J,(s.ae [3,2,0]).del 3⟩).ae [1]⟩)
noncomputable def X_ : Code:=eC [1,1,0,1,0,0] ((Tryz.f58.body).getD .skip)
theorem Ek (hT:W told){ks:List Int}{kv:V}(Ya:ks.length≤65536)(nW:∀n∈ks,(lookL n now).isSome=true)(uD:∀e∈now,e.2.length=512): ∀(j i:Nat) (acc:List dr) (av:V) (cs:List V) (ε:aF) (h:H) (E:List (Nat×V)) (Q:Ex→List (Nat×V)→H→Prop),i+j=ks.length →
  iT ε→cA ε≤268435456→acc.length≤512*i →
  Sat h (.arr 4 av cs::dx cs acc::fy g a now bL::dR a p q r op data bf::dQ r p q ε.1::cf q p ε.2.1::bz p ε.2.2::.arr 1 kv (gr ks)::S) →
  Has E [(0,.ptr g 0),(4,av),(13,kv),(14,.int .i64 ks.length),(15,.int .i64 i)] →
  (∀e c ε' E' h',jN now (ks.drop i) ε e c ε'→e≠0→look E' 2=some .bn→look E' 3=some (.int .i64 e)→Sat h' (fy g a now bL::dR a p q r op data bf::dQ r p q ε'.1::cf q p ε'.2.1::bz p ε'.2.2::S)→Q .ret E' h') →
  (∀c ε' E' h' uW cs',jN now (ks.drop i) ε 0 c ε'→acc.length+c.length≤512*ks.length→Has E' [(4,uW)]→Sat h' (.arr 4 uW cs'::dx cs' (acc++c)::fy g a now bL::dR a p q r op data bf::dQ r p q ε'.1::cf q p ε'.2.1::bz p ε'.2.2::S)→Q (.exit 0) E' h') →
  WP ⟨Tryz.prog,told⟩ 65 (.loop X_) E h Q:=by
 intro j
 induction j with
 | zero =>
  intro i acc av cs ε h E Q hj eB hw Sk s hE hr hx
  refine WP.loop (WP.has hE (zg rfl (zh rfl (ag rfl rfl aR) (by simp <;> omega) ?_)))
  refine zk 3 rfl (WP.exit ?_)
  rw [fI (by omega)] at hx
  have s1:=s.del 7
  dsimp only [aZ] at s1
  refine hx [] ε _ _ av cs (.nil ε) (by simp; omega) ⟨rfl,aa⟩ ?_
  rw [ff]
  exact s1
 | succ j ih =>
  intro i acc av cs ε h E Q hj eB hw Sk s hE hr hx
  have hn:ks[i]?=some (ks[i]'(by omega)):=aM _
  have sx:ks[i]'(by omega)∈ks:=qq _
  have qf:ks.drop i=ks[i]'(by omega)::ks.drop (i+1):=sI (by omega)
  generalize (ks[i]'(by omega))=n at hn sx qf
  have hc:(gr ks)[i]?=some (.int .i64 n):=by simp [gr,hn]
  obtain ⟨b,hb⟩:=Option.isSome_iff_exists.1 (nW n sx)
  have C6:=uD _ (kE hb)
  simp only at C6
  rw [qf] at hr hx
  obtain ⟨id,off,e1,e2⟩:=gQ (P:=Tryz.prog) s (k:=7) rfl hc bO kC
  refine WP.loop (WP.has hE (zg rfl (zt rfl (ag rfl rfl aR) (by simp <;> omega) ?_)))
  refine zk 5 rfl (WP.block (zg rfl (zo rfl (cn (r:=.ptr id off) rfl rfl e1) (zl rfl (e2 _ dS) ?_))))
  obtain ⟨nv,s⟩:=dD.1 (s.ae [2])
  dsimp only [bringA,getA,aZ] at s
  refine zk 6 rfl (zf rfl (m_ _ _) (zl rfl (s.ld (k:=0) rfl vG rfl) (zm rfl (zc rfl (yL (n:=n) hT (s.ae [4,4,4,4]) eB.ok eB.pins (cg rG hw)) ?_))))
  rintro v h ⟨e,w,ε',J,(⟨he,rfl,s⟩ | ⟨rfl,u,rfl,s⟩)⟩
  ·dsimp only [bringA,getA,aZ] at s
   refine zk 10 rfl (zt rfl (ag rfl rfl aI) (by simp; exact he) ?_)
   refine zk 8 rfl (WP.ret (hr e [] ε' _ _ (.err n _ ε e w ε' J he) he rfl rfl ?_))
   have s:=dD.2 ⟨nv,s.ae [4,4]⟩
   dsimp only [bringA,getA,aZ] at s
   exact ((s.del 7).del 6).del 5
  ·dsimp only [bringA,getA,aZ] at s
   have pQ:=J.mE eB
   have mA:=cg J.cA hw
   have hlen:=J.len eB
   refine zk 10 rfl (zh rfl (ag rfl rfl aI) (rfl) ?_)
   have s:=s.gS
   have s:=s.ae [5,5,1,1,1,1,1,1,1,0]
   dsimp only [bringA,getA,aZ] at s
   rcases ng (n:=n) (fun _ _=>aQ.cy _ _) (s.ae [1]) oW bR oz with ⟨g1,g2,_⟩ | ⟨nw,b',g1,_,g2,s2⟩
   ·rw [hb] at g1; cases g1
   rw [hb] at g1
   have:=bE g1
   subst this
   refine zk 7 rfl (zf rfl (oA _ _) (zl rfl (s.ld (k:=0) rfl mF rfl) (zm rfl (zo rfl (ji rfl rfl g2) ?_))))
   obtain ⟨dv,s⟩:=cS.1 (s2.ae [3])
   dsimp only [bringA,getA,aZ] at s
   have s:=s.ae [4]
   dsimp only [bringA,getA,aZ] at s
   refine zk 6 rfl (zf rfl (m_ _ _) (zl rfl (s.ld (k:=0) rfl vG rfl) (zn rfl (zf rfl (qH _ _) (zl rfl (s.ld (k:=1) rfl xo rfl) (zm rfl (zc rfl (Si (n:=n) hT (s.ae [5])) ?_)))))))
   rintro v h ⟨rfl,s⟩
   dsimp only [bringA,getA,aZ] at s
   refine zk 10 rfl ?_
   cases hd:(lookL n ε'.1.ck).isSome with
   | true =>
    refine zK 6 rfl (zc rfl (KO hT (u:=u) (v:=nw) (pg:=n) (s.ae [11,4]) (c8 _ _) (c8 _ _) hlen C6) ?_)
    rintro rv h ⟨Sn,c,hc,ik,s⟩
    dsimp only [bringA,getA,aZ] at s
    obtain ⟨i1,iy,fF,pP⟩:=yN
    have We:cs.length=acc.length*4:=by
     obtain ⟨a,b,q1,q2,q3⟩:=s.at (k:=12) rfl
     exact oE q3
    have Zs:Sn.length=c.length*4:=by
     obtain ⟨a,b,q1,q2,q3⟩:=s.at (k:=1) rfl
     exact oE q3
    obtain ⟨uW,h2,tQ,s2⟩:=fS (s.ae [11,0]) jm iy rZ fF (by omega) rfl (by decide) (by omega)
    dsimp only [bringA,getA,aZ] at s2
    refine az.any rfl rfl rfl (OpR.of (R:=fun v h'=>v=uW∧h'=h2) (jL rfl rfl tQ) ⟨rfl,rfl⟩) ?_
    rintro v' h' ⟨rfl,rfl⟩
    refine za rfl (zv (zr rfl (zb rfl (by exact bp (aA (by omega) (by omega))) ?_)))
    refine zm rfl (zv ?_)
    have s3:Sat _ (dx cs acc::dx Sn c::_):=s2.ae [12,2]
    have s4:=s3.two (C:=dx (cs++Sn) (acc++c)) (aQ.o5 _ _) (aQ.o5 _ _) fun a b q1 q2=>yH q1 q2
    dsimp only [bringA,getA,aZ] at s4
    have s5:=cS.2 ⟨dv,s4.ae [7,7]⟩
    dsimp only [bringA,getA,aZ] at s5
    have s6:=dD.2 ⟨nv,s5.ae [7,7]⟩
    dsimp only [bringA,getA,aZ] at s6
    have s7:=(((s6.ae [3,2,0,0,3,3,3,3]).del 10).del 9).del 8
    dsimp only [bringA,getA,aZ] at s7
    refine ih (i+1) (acc++c) _ _ ε' _ _ Q (by omega) pQ mA (by simp; omega) s7 ⟨rfl,rfl,rfl,rfl,rfl,aa⟩ (fun e c' I E' h' ht he l2 l3 s' => ?_) (fun c' I E' h' M4 ve ht hl lI s' => ?_)
    ·exact hr e _ I E' h' (.part n _ ε w b ε' c e c' I J hb hd hc ik ht) he l2 l3 s'
    ·refine hx (c++c') I E' h' M4 ve (.part n _ ε w b ε' c 0 c' I J hb hd hc ik ht) (by simp at hl ⊢; omega) lI ?_
     rw [←ep]
     exact s'
   | false =>
    refine zK 5 rfl (zc rfl (qd hT (s.ae [4]) (c8 _ _) (by omega)) ?_)
    intro cw h s
    dsimp only [bringA,getA,aZ] at s
    obtain ⟨wid,_,M5,_,rfl,_⟩:=s.eH (by omega)
    have s:=s.gS
    refine zo rfl (cM rfl (by rw [Ik]; rfl)) ?_
    obtain ⟨rv,h1,AJ,s1⟩:=ku (P:=Tryz.prog) (k:=4) (x:=.agg [.int .i64 n,.int .i64 0,.bool true,.sl wid 0 b.length M5]) s jm rZ xx rfl (by decide) (by decide) rfl rfl
    dsimp only [V.cells] at s1
    refine az.any rfl rfl rfl (OpR.of (R:=fun v h'=>v=rv∧h'=h1) (kg rfl AJ) ⟨rfl,rfl⟩) ?_
    rintro v' h' ⟨rfl,rfl⟩
    obtain ⟨i1,iy,fF,pP⟩:=yN
    have We:cs.length=acc.length*4:=by
     obtain ⟨a,b,q1,q2,q3⟩:=s1.at (k:=11) rfl
     exact oE q3
    obtain ⟨uW,h2,tQ,s2⟩:=fS (s1.ae [10,0]) jm iy rZ fF (by omega) rfl (by decide) (by simp only [aN,bG]; omega)
    dsimp only [bringA,getA,aZ] at s2
    refine az.any rfl rfl rfl (OpR.of (R:=fun v h'=>v=uW∧h'=h2) (jL rfl rfl tQ) ⟨rfl,rfl⟩) ?_
    rintro v' h' ⟨rfl,rfl⟩
    refine za rfl (zv (zr rfl (zb rfl (by exact bp (aA (by omega) (by omega))) ?_)))
    refine zm rfl (zv ?_)
    have s3:Sat _ (dx cs acc::.cy (.sl wid 0 b.length M5) b::_):=s2.ae [11,2]
    have s4:=s3.two (C:=dx (cs++[.int .i64 n,.int .i64 0,.bool true,.sl wid 0 b.length M5]) (acc++[⟨n,0,true,b⟩])) (aQ.o5 _ _) (aQ.cy _ _) fun a b q1 q2=>yH q1 ⟨⟨⟨rfl,rfl,rfl⟩,q2⟩,aa⟩
    have s5:=cS.2 ⟨dv,s4.ae [6,6]⟩
    have s6:=dD.2 ⟨nv,s5.ae [6,6]⟩
    have s7:=(((s6.ae [3,2,0,0,2,2,2,2]).del 10).del 9).del 8
    dsimp only [bringA,getA,aZ] at s7
    refine ih (i+1) (acc++[⟨n,0,true,b⟩]) _ _ ε' _ _ Q (by omega) pQ mA (by simp; omega) s7 ⟨rfl,rfl,rfl,rfl,rfl,aa⟩ (fun e c' I E' h' ht he l2 l3 s' => ?_) (fun c' I E' h' M4 ve ht hl lI s' => ?_)
    ·exact hr e _ I E' h' (.whole n _ ε w b ε' e c' I J hb hd ht) he l2 l3 s'
    ·refine hx (⟨n,0,true,b⟩::c') I E' h' M4 ve (.whole n _ ε w b ε' 0 c' I J hb hd ht) (by simp at hl ⊢; omega) lI ?_
     rw [ep] at s'
     exact s'
theorem IM (hT:W told)(s:Sat h (fy g a now bL::dR a p q r op data bf::dQ r p q ε.1::cf q p ε.2.1::bz p ε.2.2::S))(eB:iT ε)(hw:cA ε≤268435456)(I:∀e∈now,e.2.length=512)(hm:now.length≤65536)(hk:∀n∈now.map (·.1),(Lit.int .i64 n).wf=true):
  Call ⟨Tryz.prog,told⟩ 58 [.ptr g 0] h fun v h'=>∃e c ε',jN now (ei now) ε e c ε' ∧
   ((e≠0∧v=.aX [.bn,.int .i64 e]∧Sat h' (fy g a now bL::dR a p q r op data bf::dQ r p q ε'.1::cf q p ε'.2.1::bz p ε'.2.2::S)) ∨
    (e=0∧c.length≤33554432∧∃av cs,v=.aX [av,.int .i64 0]∧Sat h' (.arr 4 av cs::dx cs c::fy g a now bL::dR a p q r op data bf::dQ r p q ε'.1::cf q p ε'.2.1::bz p ε'.2.2::S))):=by
 have hl:(ei now).length=now.length:=by rw [ei,(fG _).length_eq,er]
 refine Call.of_wp (hT.free _ rfl) Tryz.func58 rfl rfl (zK 13 rfl (zc rfl (KP hT s (by omega) hk) ?_))
 intro kv h s
 refine zo rfl (aO rfl rfl rfl (s.dJ (n:=(ei now).length) (j:=0) rfl (by simp [gr]) (by decide) bO)) ?_
 refine zk 2 rfl (WP.block ?_)
 have s1:=(((s.gy aa).mB (k:=4)).hU fun a b q=>q).ae [0,0,1,1,1,1,1,0]
 refine Ek hT (ks:=ei now) (now:=now) (by omega) (fun n hn => ?_) I (ei now).length 0 [] .bn [] ε _ _ _ (by omega) eB hw (by simp) s1 ⟨rfl,rfl,rfl,rfl,rfl,aa⟩ (fun e c ε' E' h' J he l2 l3 s' => ?_) (fun c ε' E' h' av cs J ik lI s' => ?_)
 ·have:n∈now.map (·.1):=(fG _).mem_iff.1 hn
  cases hq:lookL n now with
  | some _=>rfl
  | none=>exact absurd this (nI.1 hq)
 ·rw [fg] at J
  exact ⟨aa,_,IL l2 l3,e,c,ε',J,.inl ⟨he,rfl,s'⟩⟩
 ·rw [fg] at J
  have s:=s'
  exact WP.has lI (zK 6 rfl (WP.ret ⟨aa,_,rfl,0,c,ε',J,.inr ⟨rfl,by simp at ik; omega,_,_,rfl,s⟩⟩))
end
theorem wg {b:List Nat}{n:Nat}(I:bV b=true): (cX b n).length=512:=by
 have J:=uy (n:=n) (g9 I)
 rw [cX,cK (by rw [dK]; omega),J]
def ig (π:Pl)(n:Int)(b:List Nat)(aP:Nat): Int×Pl :=
 (if (jS π n b aP).1=0 then (unpinF (jS π n b aP).2 n).1 else (jS π n b aP).1,(unpinF (jS π n b aP).2 n).2)
def yP (π:Pl)(n:Int)(i:Nat)(f:Fm)(b:List Nat)(aP:Nat): Pl :=
 { π with ah:=π.ah.set i { f with b:=cX b aP,changed:=true,pins:=0 },ck:=dc n (kN π n aP,true) π.ck }
theorem AM {π:Pl}{n:Int}{i:Nat}{f:Fm}{b:List Nat}{aP:Nat}(J:lookL n π.bu=some (i:Int))(I:π.ah[i]?=some f)(hp:f.pins=1)(hg:bV b=true): ig π n b aP=(0,yP π n i f b aP):=by
 have h1:=(rE J I hp).1
 have hi:=(List.getElem?_eq_some_iff.1 I).1
 have e1:jS π n b aP=(0,{ π with ah:=π.ah.set i { f with b:=cX b aP,changed:=true },ck:=dc n (kN π n aP,true) π.ck }):=by
  simp only [jS,h1,I,hg,Bool.true_eq_false,bF]
 have e2:=(rE (π:={ π with ah:=π.ah.set i { f with b:=cX b aP,changed:=true },ck:=dc n (kN π n aP,true) π.ck }) (n:=n) (f:={ f with b:=cX b aP,changed:=true }) J (gW hi) hp).2
 simp only [ig,e1,e2,bB,wY]
 rfl
theorem KQ {π:Pl}{n:Int}{i:Nat}{f:Fm}{b:List Nat}{aP:Nat}(J:lookL n π.bu=some (i:Int))(I:π.ah[i]?=some f)(hp:f.pins=1)(hg:bV b=false): ig π n b aP=(4,{ π with ah:=π.ah.set i { f with pins:=0 } }):=by
 have h1:=(rE J I hp).1
 have e1:jS π n b aP=(4,π):=by simp only [jS,h1,I,hg,bB]
 have e2:=(rE J I hp).2
 simp only [ig,e1,e2]
 rfl
theorem P8 {π:Pl}{n:Int}{b:List Nat}{aP:Nat}(h:π.Ok): (jS π n b aP).2.Ok:=by
 unfold jS
 split
 ·exact h
 ·split
  ·exact h
  ·rename_i f J
   have hm:=aV J
   split
   ·exact h
   ·rename_i I
    have I:bV b=true:=by simpa using I
    exact h.set h.bu (by simp only [wg I]; omega) (h.pins f hm)
theorem eO.put {ε ε':aF}{n:Int}{b0 b:List Nat}{aP:Nat}(hr:eO ε n 0 b0 ε')(h:iT ε): iT ((ig ε'.1 n b aP).2,ε'.2)∧Am.cA ((ig ε'.1 n b aP).2,ε'.2)≤Am.cA ε+1∧(bV b=true→(ig ε'.1 n b aP).1=0):=by
 have I:=hr.ok h.ok h.pins
 have J:=(hr.full h.ok.dk h.full).1
 obtain ⟨i,f,h1,h2,h3,h4,h5⟩:=hr.at h.pins
 have hm:=aV h2
 have wj:=hr.cA
 cases hg:bV b with
 | true =>
  rw [AM h1 h2 h3 hg]
  refine ⟨⟨⟨I.pl.set I.pl.bu (by simp only [wg hg]; omega) (by simp),I.lg,I.dk⟩,h5 _ rfl,J.set h2 rfl fun _=>wg hg⟩,?_,fun _=>rfl⟩
  have h6:=kS (g:={ f with b:=cX b aP,changed:=true,pins:=0 }) h2
  simp only [Bool.toNat_true] at h6
  simp only [Am.cA,yP] at wj ⊢
  omega
 | false =>
  rw [KQ h1 h2 h3 hg]
  refine ⟨⟨⟨I.pl.set I.pl.bu (I.pl.len f hm) (by simp),I.lg,I.dk⟩,h5 _ rfl,J.set h2 rfl fun hl=>hl⟩,?_,fun h=>by cases h⟩
  have h6:=kS (g:={ f with pins:=0 }) h2
  simp only [Am.cA] at wj h6 ⊢
  omega
inductive o8 (now:List (Int×List Nat))(aP:Nat): List Int→aF→Int→aF→Prop where
 | nil (ε:aF):o8 now aP [] ε 0 ε
 | gU (n:Int) (l:List Int) (ε:aF) (e:Int) (b:List Nat) (ε':aF) (hr:eO ε n e b ε') (he:e≠0):o8 now aP (n::l) ε e ε'
 | bad (n:Int) (l:List Int) (ε:aF) (b0 b:List Nat) (ε':aF) (hr:eO ε n 0 b0 ε') (hb:lookL n now=some b) (he:(ig ε'.1 n b aP).1≠0):o8 now aP (n::l) ε (ig ε'.1 n b aP).1 ((ig ε'.1 n b aP).2,ε'.2)
 | put (n:Int) (l:List Int) (ε:aF) (b0 b:List Nat) (ε':aF) (e:Int) (kF:aF) (hr:eO ε n 0 b0 ε') (hb:lookL n now=some b) (he:(ig ε'.1 n b aP).1=0) (ht:o8 now aP l ((ig ε'.1 n b aP).2,ε'.2) e kF):o8 now aP (n::l) ε e kF
theorem o8.mE {now:List (Int×List Nat)}{aP:Nat}{l:List Int}{ε ε':aF}{e:Int}(I:o8 now aP l ε e ε')(h:iT ε): iT ε':=by
 induction I with
 | nil ε=>exact h
 | gU n l ε e b ε' I he=>exact ⟨I.ok h.ok h.pins,I.GY he h.pins,(I.full h.ok.dk h.full).1⟩
 | bad n l ε b0 b ε' I hb he=>exact (I.put h).1
 | put n l ε b0 b ε' e J I hb he ht ih=>exact ih (I.put h).1
theorem o8.cA {now:List (Int×List Nat)}{aP:Nat}{l:List Int}{ε ε':aF}{e:Int}(I:o8 now aP l ε e ε')(h:iT ε): Am.cA ε'≤Am.cA ε+l.length:=by
 induction I with
 | nil ε=>exact aD _
 | gU n l ε e b ε' I he=>have:=I.cA; omega
 | bad n l ε b0 b ε' I hb he=>have:=(I.put (b:=b) (aP:=aP) h).2.1; simp only [aN]; omega
 | put n l ε b0 b ε' e J I hb he ht ih=>have h1:=ih (I.put h).1; have:=(I.put (b:=b) (aP:=aP) h).2.1; simp only [aN]; omega
theorem T3 {h:H}{id c:Nat}{es:fN}{n:Int}{u:V}{t kt et:TypeId}{k:IntKind}{z:V}(J:T.get h.tr id=some (.map (es.map tL) c))(he:lookE n es=some u)(hu:Tryz.prog.underlying t=some (.map kt et))(hk:Tryz.prog.underlying kt=some (.int k))(hz:zeroT Tryz.prog et=some z):
  dW Tryz.prog h t (.map id) (.int .i64 n) false=some u:=by
 have hi:=oT (n:=n) es 0
 simp only [dW,lookupV,hu,hk,hz,J,keyBeq,cW,af,tM]
 cases I:idxE n es 0 with
 | none=>rw [I] at hi; rw [he] at hi; cases hi
 | some q=>rw [I] at hi; rw [he] at hi; obtain ⟨j,w⟩:=q; have:=bE hi; simp only at this; subst this; rfl
section
variable {told:cz} {h:H} {S:List aq} {X Y:aq} {r k q p bQ a g bf:Nat} {op v x u wh di:V} {l b c6 data:List Nat} {now:List (Int×List Nat)} {bL:Bool} {ε:aF}
noncomputable def Yb : Code:=eC [1,1,1,1,1,1,1,1,0,1,0,0] ((Tryz.f26.body).getD .skip)
theorem KR (hT:W told){ks:List Int}{kv dv:V}{aP tR c:Nat}{es:fN}(Ya:ks.length≤65536)(nW:∀n∈ks,(lookL n now).isSome=true)(uD:∀e∈now,e.2.length=512): ∀(j i:Nat) (ε:aF) (h:H) (E:List (Nat×V)) (Q:Ex→List (Nat×V)→H→Prop),i+j=ks.length →
  iT ε→cA ε+j≤268435456 →
  Sat h (pt g (.cells 3 [.ptr a 0,.map tR,.bool bL] false)::jk tR es c::fT (fun v b=>.cy v b) es now::pt a (.cells 6 (GX a p q r op dv bf) false)::dQ r p q ε.1::cf q p ε.2.1::bz p ε.2.2::.arr 1 kv (gr ks)::S) →
  Has E [(0,.ptr g 0),(6,.ptr a 0),(8,.int .u64 (aP:Int)),(73,kv),(74,.int .i64 ks.length),(75,.int .i64 i)] →
  (∀e ε' E' h',o8 now aP (ks.drop i) ε e ε'→e≠0→look E' 4=some (.int .u64 0)→look E' 5=some (.int .i64 e)→Sat h' (pt g (.cells 3 [.ptr a 0,.map tR,.bool bL] false)::jk tR es c::fT (fun v b=>.cy v b) es now::pt a (.cells 6 (GX a p q r op dv bf) false)::dQ r p q ε'.1::cf q p ε'.2.1::bz p ε'.2.2::S)→Q .ret E' h') →
  (∀ε' E' h',o8 now aP (ks.drop i) ε 0 ε'→Has E' [(8,.int .u64 (aP:Int))]→Sat h' (pt g (.cells 3 [.ptr a 0,.map tR,.bool bL] false)::jk tR es c::fT (fun v b=>.cy v b) es now::pt a (.cells 6 (GX a p q r op dv bf) false)::dQ r p q ε'.1::cf q p ε'.2.1::bz p ε'.2.2::S)→Q (.exit 1) E' h') →
  WP ⟨Tryz.prog,told⟩ 118 (.loop Yb) E h Q:=by
 intro j
 induction j with
 | zero =>
  intro i ε h E Q hj I hw s hE hr hx
  refine WP.loop (WP.has hE (zg rfl (zh rfl (ag rfl rfl aR) (by simp <;> omega) ?_)))
  refine zk 3 rfl (WP.exit ?_)
  rw [fI (by omega)] at hx
  exact hx ε _ _ (.nil ε) ⟨rfl,aa⟩ (s.del 7)
 | succ j ih =>
  intro i ε h E Q hj I hw s hE hr hx
  have hn:ks[i]?=some (ks[i]'(by omega)):=aM _
  have sx:ks[i]'(by omega)∈ks:=qq _
  have qf:ks.drop i=ks[i]'(by omega)::ks.drop (i+1):=sI (by omega)
  generalize (ks[i]'(by omega))=n at hn sx qf
  have hc:(gr ks)[i]?=some (.int .i64 n):=by simp [gr,hn]
  obtain ⟨b,hb⟩:=Option.isSome_iff_exists.1 (nW n sx)
  have C6:=uD _ (kE hb)
  simp only at C6
  rw [qf] at hr hx
  obtain ⟨id,off,e1,e2⟩:=gQ (P:=Tryz.prog) s (k:=7) rfl hc bO kC
  refine WP.loop (WP.has hE (zg rfl (zt rfl (ag rfl rfl aR) (by simp <;> omega) ?_)))
  refine zk 5 rfl (WP.block (zg rfl (zo rfl (cn (r:=.ptr id off) rfl rfl e1) (zl rfl (e2 _ dS) (zk 7 rfl (zf rfl (qH _ _) (zl rfl (s.ld (k:=3) rfl xo rfl) (zm rfl (zc rfl (KJ (n:=n) hT (s.ae [4,4,4]) I.ok.pl I.pins I.ok.lg I.ok.dk (by have:=rG (ε:=ε); omega)) ?_)))))))))
  rintro v h ⟨e,b0,ε',El,(⟨he,rfl,s⟩ | ⟨rfl,u0,rfl,s⟩)⟩
  ·dsimp only [bringA,getA,aZ] at s
   refine zk 9 rfl (zt rfl (ag rfl rfl aI) (by simp; exact he) ?_)
   exact zk 8 rfl (WP.ret (hr e ε' _ _ (.gU n _ ε e b0 ε' El he) he rfl rfl ((s.ae [3,3,3,3,0,0,0]).del 7)))
  ·dsimp only [bringA,getA,aZ] at s
   have s:=s.drop
   have IN:=El.put (b:=b) (aP:=aP) I
   have yl:=El.ok I.ok I.pins
   refine zk 9 rfl (zh rfl (ag rfl rfl aI) (rfl) (zk 4 rfl ?_))
   have s1:Sat h (fT (fun v b=>.cy v b) es now::_):=s.ae [5]
   obtain ⟨_,_,_,_,q3⟩:=s1.at (k:=0) rfl
   rcases qc (n:=n) q3 with ⟨_,q4⟩ | ⟨u,b',g1,g2,_⟩
   ·rw [hb] at q4; cases q4
   rw [hb] at g2
   have:=bE g2
   subst this
   have s2:=(s1.dup (aQ.Mx (fun _ _=>aQ.cy _ _) _ _)).hU (B:=.cy u b) fun a' b' h'=>by
    rcases qc (n:=n) h' with ⟨_,q4⟩ | ⟨u',Us,UW,UX,R7⟩
    ·rw [hb] at q4; cases q4
    ·rw [g1] at UW; rw [hb] at UX
     have h5:=bE UW
     have h6:=bE UX
     subst h5; subst h6
     exact R7
   dsimp only [bringA,getA,aZ] at s2
   obtain ⟨uid,Zt,Zu,rfl⟩:=gZ (s2.aG (k:=0) rfl (c8 _ _)) (by omega)
   have s:=s2.ae [2,0]
   dsimp only [bringA,getA,aZ] at s
   have s0:=s
   refine WP.drawn [ak,ak,ak,ak,ak,ak,ak,ak,ak,ak,ak,ak,ak,ak] rfl (by kernel_rfl) (by kernel_rfl) ?_
   refine zM rfl (zN rfl (zF rfl (qH _ _) (zL rfl (s.ld (k:=7) rfl xo rfl) (zM rfl (zM rfl (zN rfl (zF rfl (oA _ _) (zL rfl (s.ld (k:=5) rfl mF rfl) (zM rfl (zO rfl (ji rfl rfl (T3 (s.row (k:=6) rfl) g1 oW bR oz)) (zM rfl (aB.any rfl rfl rfl rfl (OpR.call rfl rfl rfl rfl (PZ (n:=n) (aP:=aP) (b:=b) hT s (c8 _ _) yl.pl (by omega))) ?_))))))))))))
   rintro v h ⟨rfl,s⟩
   refine zA rfl ?_
   refine aB.nil ⟨⟨aa,aa,aa,aa,aa,aa,aa,aa,aa,aa,aa,aa,aa,aa,aa⟩,?_⟩
   refine zK 5 rfl (zf rfl (qH _ _) (zl rfl (s.ld (k:=7) rfl xo rfl) (zm rfl (zc rfl (Ef (n:=n) hT s (P8 yl.pl)) ?_))))
   rintro v h ⟨rfl,s⟩
   refine zk 5 rfl ?_
   by_cases hg:(jS ε'.1 n b aP).1=0
   ·have G2:(ig ε'.1 n b aP).1=(unpinF (jS ε'.1 n b aP).2 n).1:=by simp only [ig,hg,bB]
    have Cx:(ig ε'.1 n b aP).2=(unpinF (jS ε'.1 n b aP).2 n).2:=rfl
    rw [←G2,←Cx] at *
    refine zt rfl (ag rfl rfl e_) (by simp; exact hg) ?_
    refine zk 9 rfl ?_
    by_cases he:(ig ε'.1 n b aP).1=0
    ·skip
     refine zh rfl (ag rfl rfl aI) (by simp; exact he) ?_
     refine zv (zj rfl (WP.skip (zr rfl (zb rfl (by exact bp (aA (by omega) (by omega))) ?_))))
     refine zm rfl (zv ?_)
     have s9:=(s.ae [5,5,2,4,0,1,1,1]).del 8
     refine ih (i+1) ((ig ε'.1 n b aP).2,ε'.2) _ _ Q (by omega) IN.1 (by have h9:cA ((ig ε'.1 n b aP).2,ε'.2)≤cA ε+1:=IN.2.1; omega) s9 ⟨rfl,rfl,rfl,rfl,rfl,rfl,aa⟩ (fun e J E' h' ht zP l4 l5 s' => ?_) (fun J E' h' ht lI s' => ?_)
     ·exact hr e J E' h' (.put n _ ε b0 b ε' e J El hb he ht) zP l4 l5 s'
     ·exact hx J E' h' (.put n _ ε b0 b ε' 0 J El hb he ht) lI s'
    ·skip
     refine zt rfl (ag rfl rfl aI) (by simp; exact he) ?_
     exact zk 8 rfl (WP.ret (hr _ _ _ _ (.bad n _ ε b0 b ε' El hb he) he rfl rfl (((s.ae [5,5,2,4,0,1,1,1]).del 8).del 7)))
   ·have G2:(ig ε'.1 n b aP).1=(jS ε'.1 n b aP).1:=by simp only [ig,hg,bF]
    have Cx:(ig ε'.1 n b aP).2=(unpinF (jS ε'.1 n b aP).2 n).2:=rfl
    rw [←G2] at hg
    refine zh rfl (ag rfl rfl e_) (by simp; rw [←G2]; exact hg) ?_
    refine zk 6 rfl (zt rfl (ag rfl rfl aI) (by simp; rw [←G2]; exact hg) ?_)
    refine zk 8 rfl (WP.ret (hr _ _ _ _ (.bad n _ ε b0 b ε' El hb hg) hg rfl (by rw [G2]; rfl) ?_))
    exact ((s.ae [5,5,2,4,0,1,1,1]).del 8).del 7
end
end Go.Proofs.YtefepnnfphdkpaaGreat.Am
