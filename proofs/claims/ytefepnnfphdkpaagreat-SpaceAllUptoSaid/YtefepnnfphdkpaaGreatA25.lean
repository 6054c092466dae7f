/- SpaceAll: a part of its proof; conditions: its statement's. -/
import Derived.Test.YtefepnnfphdkpaaGreatA24
namespace Go.Proofs.YtefepnnfphdkpaaGreat.Am
open Go
inductive tF (aS:Int)(cR now:List Nat): Nat→List cY→Prop where
 | done (i:Nat) (h:now.length≤i):tF aS cR now i []
 | skip (i:Nat) (l:List cY) (h:i<now.length) (he:cR[i]?=now[i]?) (hr:tF aS cR now (i+1) l):tF aS cR now i l
 | take (i e:Nat) (l:List cY) (h1:i<e) (h2:e≤now.length) (h3:cR[i]?≠now[i]?) (h4:∀k,e≤k→k<e+8→cR[k]?=now[k]?) (hr:tF aS cR now e l):tF aS cR now i (⟨aS,i,false,(now.take e).drop i⟩::l)
def IW (aS:Int)(cR now:List Nat)(c:List cY): Prop:=∃l,tF aS cR now 12 l∧c=if l=[] then [⟨aS,0,false,[]⟩] else l
theorem wX : ∃i,Tryz.prog.info? 180=some i∧i.size=4∧i.bytes=48 :=
 ⟨_,(show Tryz.prog.info? 180=some ((Tryz.prog.info? 180).getD default) by kernel_rfl),by kernel_rfl,by kernel_rfl⟩
section
variable {told:cX} {h:H} {S:List au} {X Y:au} {r k q p bF a g bA:Nat} {op v x u wh di:V} {l b cR now:List Nat}
noncomputable def UQ : Code:=fC [1,1,0,1,0,0] ((Tryz.f115.body).getD .skip)
noncomputable def UR : Code:=fC [1,1,0,1,0,0,1,0,1,1,0,1,0,0] ((Tryz.f115.body).getD .skip)
theorem KV {pg:Int}{I:Nat}{t7:V}{k1 k2:Nat}(s:Sat h S)(tS:getA S k1=some X)(hX:cN X (cQ u cR))(Im:getA S k2=some Y)(hY:cN Y (cQ v now))(Mb:cR.length=512)(iN:now.length=512): ∀(j i e:Nat) (E:List (Nat×V)) (Q:Ex→List (Nat×V)→H→Prop),i+j=512→I<e→e≤i→(∀k,e≤k→k<i→cR[k]?=now[k]?) →
  Has E [(0,.int .i64 pg),(1,u),(2,v),(7,t7),(8,.int .i64 (I:Int)),(9,.int .i64 (e:Int)),(10,.int .i64 (i:Int))] →
  (∀J E',I<J→J≤512→(∀k,J≤k→k<J+8→cR[k]?=now[k]?)→Has E' [(0,.int .i64 pg),(1,u),(2,v),(7,t7),(8,.int .i64 (I:Int)),(9,.int .i64 (J:Int))]→Q (.exit 2) E' h) →
  WP ⟨Tryz.prog,told⟩ 71 (.loop UR) E h Q:=by
 have hv:=s.aK Im hY
 have hu:=s.aK tS hX
 have hlen:lenV Tryz.prog h 28 v=some (.int .i64 now.length):=bw aM hv
 intro j
 induction j with
 | zero =>
  intro i e E Q hi h1 h2 hg hE hq
  refine WP.loop (WP.has hE (zK 5 rfl (zo rfl (aQ rfl rfl rfl hlen) (zh rfl (ag rfl rfl aO) (by simp <;> omega) ?_))))
  refine zk 8 rfl (WP.exit ?_)
  refine hq e _ h1 (by omega) (fun k k1 _ => ?_) ⟨rfl,rfl,rfl,rfl,rfl,rfl,aa⟩
  by_cases hk:k<i
  ·exact hg k k1 hk
  ·rw [qZ (by omega),qZ (by omega)]
 | succ j ih =>
  intro i e E Q hi h1 h2 hg hE hq
  have hb:now[i]?=some (now[i]'(by omega)):=aN _
  generalize (now[i]'(by omega))=b at hb
  have hc:cR[i]?=some (cR[i]'(by omega)):=aN _
  generalize (cR[i]'(by omega))=c at hc
  obtain ⟨id,off,e1,e2⟩:=c7 hv hb
  obtain ⟨tX,off',e3,e4⟩:=c7 hu hc
  refine WP.loop (WP.has hE (zK 5 rfl (zo rfl (aQ rfl rfl rfl hlen) (zt rfl (ag rfl rfl aO) (by simp <;> omega) ?_))))
  refine zk 3 rfl (zb rfl (by exact aV (aA (by omega) (by omega))) ?_)
  by_cases hd:i<e+8
  ·skip
   refine zt rfl (ag rfl rfl aO) (by simp <;> omega) ?_
   refine zk 5 rfl (WP.block (zw ?_))
   have s0:=s
   refine WP.drawn [ak,ak,ak,ak,ak,ak,ak,ak,ak] rfl (by kernel_rfl) (by kernel_rfl) ?_
   refine zM rfl (zM rfl (zO rfl (cI (r:=.ptr tX off') rfl rfl e3) (zL rfl e4 (zM rfl (zM rfl (zO rfl (cI (r:=.ptr id off) rfl rfl e1) (zL rfl e2 ?_)))))))
   by_cases Fa:c=b
   ·skip
    refine aD.mI rfl rfl rfl rfl (ag rfl rfl aF) (by simp; exact_mod_cast Fa) ?_
    refine aD.nil ⟨⟨aa,aa,aa,aa,aa,aa,aa,aa,aa,aa⟩,?_⟩
    refine zj rfl (WP.skip (zr rfl (zm rfl (zb rfl (by exact aV (aA (by omega) (by omega))) ?_))))
    refine za rfl (zv ?_)
    exact ih (i+1) e _ Q (by omega) h1 (by omega) (fun k k1 k2=>(by
     rcases iR k i with h | h
     ·exact hg k k1 h
     ·rw [show k=i by omega,hb,hc,Fa])) ⟨rfl,rfl,rfl,rfl,rfl,rfl,rfl,aa⟩ hq
   ·skip
    refine aD.yj rfl rfl rfl rfl (ag rfl rfl aF) (by simp; omega) ?_
    refine aD.nil ⟨⟨aa,aa,aa,aa,aa,aa,aa,aa,aa,aa⟩,?_⟩
    refine zK 3 rfl (zb rfl (by exact aV (aA (by omega) (by omega))) ?_)
    refine za rfl (zv (zr rfl (zm rfl (zb rfl (by exact aV (aA (by omega) (by omega))) ?_))))
    refine za rfl (zv ?_)
    exact ih (i+1) (i+1) _ Q (by omega) (by omega) (by omega) (fun k k1 k2=>absurd k2 (by omega)) ⟨rfl,rfl,rfl,rfl,rfl,rfl,rfl,aa⟩ hq
  ·skip
   refine zh rfl (ag rfl rfl aO) (by simp <;> omega) ?_
   exact zk 3 rfl (WP.exit (hq e _ h1 (by omega) (fun k k1 k2=>hg k k1 (by omega)) ⟨rfl,rfl,rfl,rfl,rfl,rfl,aa⟩))
theorem KW (hT:W told){pg:Int}(hX:cN X (cQ u cR))(hY:cN Y (cQ v now))(Mb:cR.length=512)(iN:now.length=512): ∀(j i:Nat) (acc:List cY) (av:V) (cs:List V) (h:H) (E:List (Nat×V)) (Q:Ex→List (Nat×V)→H→Prop),512≤i+j→i≤512→acc.length≤i →
  Sat h (.arr 4 av cs::cZ cs acc::X::Y::S)→(∀l,tF pg cR now i l→tF pg cR now 12 (acc++l)) →
  Has E [(0,.int .i64 pg),(1,u),(2,v),(7,av),(8,.int .i64 (i:Int))] →
  (∀tG cs' l E' h',tF pg cR now 12 l→l.length≤512→Sat h' (.arr 4 tG cs'::cZ cs' l::X::Y::S)→Has E' [(0,.int .i64 pg),(7,tG)]→Q (.exit 0) E' h') →
  WP ⟨Tryz.prog,told⟩ 71 (.loop UQ) E h Q:=by
 intro j
 induction j with
 | zero =>
  intro i acc av cs h E Q hj hi PN s I hE hq
  have hlen:lenV Tryz.prog h 28 v=some (.int .i64 now.length):=bw aM (s.aK (k:=3) rfl hY)
  refine WP.loop (WP.has hE (zK 5 rfl (zo rfl (aQ rfl rfl rfl hlen) (zh rfl (ag rfl rfl aO) (by simp <;> omega) ?_))))
  refine zk 2 rfl (WP.exit ?_)
  have:=I [] (.done _ (by omega))
  rw [fH] at this
  exact hq av cs acc _ _ this (by omega) s ⟨rfl,rfl,aa⟩
 | succ j ih =>
  intro i acc av cs h E Q hj hi PN s I hE hq
  have hv:=s.aK (k:=3) rfl hY
  have hu:=s.aK (k:=2) rfl hX
  have hlen:lenV Tryz.prog h 28 v=some (.int .i64 now.length):=bw aM hv
  by_cases br:i<512
  ·have hb:now[i]?=some (now[i]'(by omega)):=aN _
   generalize (now[i]'(by omega))=b at hb
   have hc:cR[i]?=some (cR[i]'(by omega)):=aN _
   generalize (cR[i]'(by omega))=c at hc
   obtain ⟨id,off,e1,e2⟩:=c7 hv hb
   obtain ⟨tX,off',e3,e4⟩:=c7 hu hc
   refine WP.loop (WP.has hE (zK 5 rfl (zo rfl (aQ rfl rfl rfl hlen) (zt rfl (ag rfl rfl aO) (by simp <;> omega) ?_))))
   refine zk 3 rfl (WP.block (zK 2 rfl ?_))
   have s0:=s
   refine WP.drawn [ak,ak,ak,ak,ak,ak,ak,ak,ak] rfl (by kernel_rfl) (by kernel_rfl) ?_
   refine zM rfl (zM rfl (zO rfl (cI (r:=.ptr tX off') rfl rfl e3) (zL rfl e4 (zM rfl (zM rfl (zO rfl (cI (r:=.ptr id off) rfl rfl e1) (zL rfl e2 ?_)))))))
   by_cases Fa:c=b
   ·skip
    refine aD.yj rfl rfl rfl rfl (ag rfl rfl iJ) (by simp; exact_mod_cast Fa) ?_
    refine aD.nil ⟨⟨aa,aa,aa,aa,aa,aa,aa,aa,aa,aa⟩,?_⟩
    refine zK 4 rfl (zb rfl (by exact aV (aA (by omega) (by omega))) ?_)
    exact zk 2 rfl (WP.exit (ih (i+1) acc av cs h _ Q (by omega) (by omega) (by omega) s (fun l hl=>I l (.skip i l (by omega) (by rw [hb,hc,Fa]) hl)) ⟨rfl,rfl,rfl,rfl,rfl,aa⟩ hq))
   ·skip
    refine aD.mI rfl rfl rfl rfl (ag rfl rfl iJ) (by simp; omega) ?_
    refine aD.nil ⟨⟨aa,aa,aa,aa,aa,aa,aa,aa,aa,aa⟩,?_⟩
    refine zK 5 rfl (zb rfl (by exact aV (aA (by omega) (by omega))) ?_)
    refine zk 8 rfl (WP.block ?_)
    refine KV s (k1:=2) (k2:=3) rfl hX rfl hY Mb iN (512-(i+1)) (i+1) (i+1) _ _ (by omega) (zC i) (aE _) (fun k k1 k2=>absurd k2 (by omega)) ⟨rfl,rfl,rfl,rfl,rfl,rfl,rfl,aa⟩ (fun e' E' PO Fb US kB => ?_)
    refine WP.has kB ?_
    have UT:=ic hv (a:=i) (b:=e') (by omega) (by omega)
    refine zK 8 rfl (zo rfl (eD (p:=some (.int .i64 (i:Int))) (q:=some (.int .i64 (e':Int))) (m:=none) (p':=some i) (q':=some e') (m':=none) rfl rfl rfl rfl (by rw [dZ (by omega)]; rfl) (by rw [dZ (by omega)]; rfl) rfl UT.1) ?_)
    refine zc rfl (oL hT (s.ae [3]) (sQ hY (a:=i) (b:=e') (by omega) (by omega)) (by simp; omega)) ?_
    intro w h s
    dsimp only [bringA,getA,bk] at s
    obtain ⟨wid,_,J,_,rfl,_⟩:=s.eo (by simp; omega)
    have s:=s.gH
    generalize LR:(now.take e').drop i=bs at s
    refine zo rfl (cW rfl (by rw [Gc]; rfl)) ?_
    obtain ⟨rv,h1,uP,s1⟩:=kU (P:=Tryz.prog) (k:=4) (x:=.agg [.int .i64 pg,.int .i64 (i:Int),.bool false,.sl wid 0 bs.length J]) s iM qF vG rfl (by decide) (by decide) rfl rfl
    dsimp only [V.cells] at s1
    refine az.any rfl rfl rfl (OpR.of (R:=fun v h'=>v=rv∧h'=h1) (lP rfl uP) ⟨rfl,rfl⟩) ?_
    rintro v' h' ⟨rfl,rfl⟩
    obtain ⟨i1,jI,iq,r9⟩:=wX
    have kq:cs.length=acc.length*4:=by
     obtain ⟨a,b,q1,q2,q3⟩:=s1.at (k:=4) rfl
     exact nB q3
    obtain ⟨tG,h2,r_,s2⟩:=ie (s1.ae [3,0]) iM jI qF iq (by omega) rfl (by decide) (by simp only [bf,bR]; omega)
    dsimp only [bringA,getA,bk] at s2
    refine az.any rfl rfl rfl (OpR.of (R:=fun v h'=>v=tG∧h'=h2) (kS rfl rfl r_) ⟨rfl,rfl⟩) ?_
    rintro v' h' ⟨rfl,rfl⟩
    refine za rfl (zv (zr rfl (zk 2 rfl (zv ?_))))
    have s3:Sat _ (cZ cs acc::.cr (.sl wid 0 bs.length J) bs::_):=s2.ae [4,2]
    have s4:=s3.two (C:=cZ (cs++[.int .i64 pg,.int .i64 (i:Int),.bool false,.sl wid 0 bs.length J]) (acc++[⟨pg,i,false,bs⟩])) (a_.nX _ _) (a_.cr _ _) fun a b q1 q2=>wR q1 ⟨⟨⟨rfl,rfl,rfl⟩,q2⟩,aa⟩
    have s5:=(s4.ae [1,0,2,1]).del 4
    dsimp only [bringA,getA,bk] at s5
    refine ih e' (acc++[⟨pg,(i:Int),false,bs⟩]) _ _ _ _ Q (by omega) Fb (by simp; omega) s5 (fun l hl => ?_) ⟨rfl,rfl,rfl,rfl,rfl,aa⟩ hq
    have:=I _ (.take i e' l PO (by omega) (fun hx=>by rw [hb,hc] at hx; exact Fa (bH hx)) US hl)
    rw [LR] at this
    rwa [eZ]
  ·have Wy:i=512:=by omega
   refine WP.loop (WP.has hE (zK 5 rfl (zo rfl (aQ rfl rfl rfl hlen) (zh rfl (ag rfl rfl aO) (by simp <;> omega) ?_))))
   refine zk 2 rfl (WP.exit ?_)
   have:=I [] (.done _ (by omega))
   rw [fH] at this
   exact hq av cs acc _ _ this (by omega) s ⟨rfl,rfl,aa⟩
theorem IX (hT:W told){pg:Int}(s:Sat h (X::Y::S))(hX:cN X (cQ u cR))(hY:cN Y (cQ v now))(J:cR.length=512)(iN:now.length=512):
  Call ⟨Tryz.prog,told⟩ 115 [.int .i64 pg,u,v] h fun w h'=>∃cs l,IW pg cR now l∧l.length≤512∧Sat h' (.arr 4 w cs::cZ cs l::X::Y::S):=by
 refine Call.of_wp (hT.free _ rfl) Tryz.func115 rfl rfl (zK 13 rfl (WP.block ?_))
 refine KW hT (pg:=pg) hX hY J iN 500 12 [] .bq [] _ _ _ (by omega) (by omega) (by simp) ((s.hO aa).mN) (fun l hl=>hl) ⟨rfl,rfl,rfl,rfl,rfl,aa⟩ (fun tG cs' l E' h' hr UU s' kB => ?_)
 have s:=s'
 have hlen:=s.uI (j1:=0) (j2:=1) rfl rfl iM
 have Ml:=s.ny (j:=0) rfl
 refine WP.has kB (zK 4 rfl (zo rfl (aQ rfl rfl rfl hlen) ?_))
 by_cases I:l=[]
 ·skip
  refine zt rfl (ag rfl rfl iJ) (by subst I; rfl) ?_
  refine zk 5 rfl (zo rfl (cW rfl (by rw [Gc]; rfl)) ?_)
  obtain ⟨rv,h1,uP,s1⟩:=kU (P:=Tryz.prog) (k:=4) (x:=.agg [.int .i64 pg,.int .i64 0,.bool false,.bq]) s iM qF vG rfl (by decide) (by decide) rfl rfl
  dsimp only [V.cells] at s1
  refine az.any rfl rfl rfl (OpR.of (R:=fun v h'=>v=rv∧h'=h1) (lP rfl uP) ⟨rfl,rfl⟩) ?_
  rintro v' h' ⟨rfl,rfl⟩
  refine zk 2 rfl (WP.ret ⟨aa,_,rfl,?_⟩)
  refine ⟨[.int .i64 pg,.int .i64 0,.bool false,.bq],[⟨pg,0,false,[]⟩],⟨l,hr,by rw [aq I]⟩,by simp,?_⟩
  have s2:=(s1.del 2).del 1
  have s3:Sat _ (.cr .bq []::.arr 4 v' _::X::Y::S):=s2.oJ
  have s4:=s3.gR (B:=cZ [.int .i64 pg,.int .i64 0,.bool false,.bq] [⟨pg,0,false,[]⟩]) fun a b q=>⟨⟨⟨rfl,rfl,rfl⟩,q⟩,aa⟩
  exact s4.ae [1,0]
 ·skip
  refine zh rfl (ag rfl rfl iJ) (by cases l with | nil=>exact absurd rfl I | cons _ _=>simp; omega) ?_
  exact zk 8 rfl (WP.ret ⟨aa,_,rfl,_,l,⟨l,hr,by rw [ai I]⟩,UU,s⟩)
end
def fP (m:List Fm): Nat:=(m.map (·.changed)).count true
theorem j0 {f g:Fm}: ∀ {m:List Fm} {i:Nat},m[i]?=some f→fP (m.set i g)+f.changed.toNat=fP m+g.changed.toNat:=by
 intro m
 induction m with
 | nil=>intro i h; simp at h
 | cons x m I =>
  intro i h
  cases i with
  | zero =>
   simp at h
   subst h
   simp only [fP,List.set_cons_zero,bX,List.count_cons]
   cases x.changed <;> cases g.changed <;> simp
  | succ i =>
   rw [jT] at h
   have:=I h
   simp only [fP,y8,bX,List.count_cons] at this ⊢
   omega
theorem yH {g:Fm}(I:g.changed=false): ∀ {m:List Fm} {i:Nat},fP (m.set i g)≤fP m:=by
 intro m i
 cases h:m[i]? with
 | none =>
  have:m.length≤i:=by simpa using h
  rw [List.set_eq_of_length_le this]
  exact aE _
 | some f =>
  have:=j0 (g:=g) h
  rw [I] at this
  simp only [Bool.toNat_false] at this
  omega
def cf (ε:aH): Nat:=ε.2.2.waiting.length+fP ε.1.ah
theorem qm {ε:aH}: ε.2.2.waiting.length≤cf ε:=zD _ _
theorem er.count {π I:Pl}(J:er π I): fP I.ah=fP π.ah:=by
 have:I.ah.map (·.changed)=π.ah.map (·.changed):=by
  refine oW fun i => ?_
  rw [jU,jU]
  cases h:π.ah[i]? with
  | none =>
   have h1:π.ah.length≤i:=by simpa using h
   have:I.ah[i]?=none:=by simp [J.len,h1]
   rw [this]
  | some f =>
   obtain ⟨t,ht⟩:=J.get i f h
   rw [ht]; rfl
 simp only [fP,this]
theorem CO {δ:Dk}{n:Int}{b:List Nat}(h:(δ.cH n b).1≠0): (δ.cH n b).2.waiting=δ.waiting:=by
 unfold Dk.cH at h ⊢
 split
 ·rfl
 ·rename_i I
  rw [ai I] at h
  split
  ·rfl
  ·rename_i J
   rw [ai J] at h
   split
   ·rfl
   ·rename_i h3
    rw [ai h3] at h
    exact absurd rfl h
theorem KX {ε:aH}{i:Nat}: cf (outF ε i).2≤cf ε:=by
 unfold outF
 split
 ·exact aE _
 ·rename_i f J
  split
  ·exact aE _
  ·rename_i I
   have I:f.changed=true:=by cases h:f.changed <;> simp [h] at I ⊢
   split
   ·exact aE _
   ·split
    ·simp only [cf,mT]; exact aE _
    ·split
     ·rename_i hw
      simp only [cf,CO hw,mT]; exact aE _
     ·have h1:=D1 (δ:=(bL ε.2 (cC f.b 4 8)).2.2) (n:=f.aS) (b:=f.b)
      rw [mT] at h1
      have h2:=j0 (g:={ f with changed:=false }) J
      simp only [I,Bool.toNat_true,Bool.toNat_false] at h2
      simp only [cf]
      omega
theorem uQ {π:Pl}{i:Nat}{f:Fm}: fP (cu π i f).ah≤fP π.ah:=yH rfl
theorem eu.cf {ε ε':aH}{n e:Int}{b:List Nat}(hr:eu ε n e b ε'): Am.cf ε'≤Am.cf ε:=by
 have nD:∀ {I:Pl},er ε.1 I→∀i,Am.cf (outF (I,ε.2) i).2≤Am.cf ε:=fun {I} J i=>by
  have:=KX (ε:=(I,ε.2)) (i:=i)
  refine b5 this ?_
  simp only [Am.cf,J.count]
  exact aE _
 cases hr with
 | arg _=>exact aE _
 | yE i f h1 h2 hl hf =>
  have h2:=j0 (g:={ f with dz:=true,pins:=f.pins+1 }) hf
  simp only [Am.cf] at h2 ⊢
  omega
 | out I i f h1 h2 hl J hf hh he=>exact nD J i
 | read I i f h1 h2 hl J hf hh he hr=>exact b5 (vf uQ _) (nD J i)
 | bad I i f h1 h2 hl J hf hh he hr hc=>exact b5 (vf uQ _) (nD J i)
 | load I i f h1 h2 hl J hf hh he hr hc=>exact b5 (vf (b5 (yH rfl) uQ) _) (nD J i)
theorem yI {π:Pl}{n:Int}: fP (unpinF π n).2.ah=fP π.ah:=by
 unfold unpinF
 split
 ·rfl
 ·split
  ·rfl
  ·rename_i i hi f I
   have J:=j0 (g:={ f with pins:=f.pins-1 }) I
   simp only at J ⊢
   omega
theorem kf.cf {ε ε':aH}{n e:Int}{b:List Nat}(I:kf ε n e b ε'): Am.cf ε'≤Am.cf ε:=by
 cases I with
 | dead _=>exact aE _
 | gy e b ε' J I he=>exact I.cf
 | oO b ε' J I he=>have:=I.cf; simp only [Am.cf,yI] at this ⊢; exact this
 | read b ε' J I he=>have:=I.cf; simp only [Am.cf,yI] at this ⊢; exact this
theorem mq.cf {ε ε':aH}{now:List (Int×List Nat)}{bE:Bool}{n e:Int}{b:List Nat}(I:mq ε now bE n e b ε'): Am.cf ε'≤Am.cf ε:=by
 cases I with
 | arg _=>exact aE _
 | bE _ _ _=>exact aE _
 | own _ _ _ _ _=>exact aE _
 | read e b ε' J h2 h3 hl I=>exact I.cf
theorem ql.cf {ε ε':aH}{now b_:List (Int×List Nat)}{bE:Bool}{n e:Int}{b:List Nat}(I:ql ε now bE n b e b_ ε'): Am.cf ε'≤Am.cf ε:=by
 cases I with
 | may e c ε' I he=>exact I.cf
 | bad c ε' I J=>exact I.cf
 | done c ε' I J=>exact I.cf
inductive jh (now:List (Int×List Nat)): List Int→aH→Int→List cY→aH→Prop where
 | nil (ε:aH):jh now [] ε 0 [] ε
 | err (n:Int) (l:List Int) (ε:aH) (e:Int) (b:List Nat) (ε':aH) (hr:kf ε n e b ε') (he:e≠0):jh now (n::l) ε e [] ε'
 | part (n:Int) (l:List Int) (ε:aH) (cR b:List Nat) (ε':aH) (c:List cY) (e:Int) (cs:List cY) (jL:aH) (hr:kf ε n 0 cR ε') (hb:lookL n now=some b) (hd:(lookL n ε'.1.bV).isSome=true) (hc:IW n cR b c) (hl:c.length≤512) (ht:jh now l ε' e cs jL):jh now (n::l) ε e (c++cs) jL
 | whole (n:Int) (l:List Int) (ε:aH) (cR b:List Nat) (ε':aH) (e:Int) (cs:List cY) (jL:aH) (hr:kf ε n 0 cR ε') (hb:lookL n now=some b) (hd:(lookL n ε'.1.bV).isSome=false) (ht:jh now l ε' e cs jL):jh now (n::l) ε e (⟨n,0,true,b⟩::cs) jL
theorem jh.lH {now:List (Int×List Nat)}{l:List Int}{ε ε':aH}{e:Int}{cs:List cY}(I:jh now l ε e cs ε')(h:ig ε): ig ε':=by
 induction I with
 | nil ε=>exact h
 | err n l ε e b ε' I he=>exact I.lH h
 | part n l ε cR b ε' c e cs J I hb hd hc hl ht ih=>exact ih (I.lH h)
 | whole n l ε cR b ε' e cs J I hb hd ht ih=>exact ih (I.lH h)
theorem jh.cf {now:List (Int×List Nat)}{l:List Int}{ε ε':aH}{e:Int}{cs:List cY}(I:jh now l ε e cs ε'): Am.cf ε'≤Am.cf ε:=by
 induction I with
 | nil ε=>exact aE _
 | err n l ε e b ε' I he=>exact I.cf
 | part n l ε cR b ε' c e cs J I hb hd hc hl ht ih=>exact b5 ih I.cf
 | whole n l ε cR b ε' e cs J I hb hd ht ih=>exact b5 ih I.cf
theorem KY {P:Program}{E:List (Nat×V)}{h:H}{a b:Nat}{v w:V}(I:look E a=some v)(J:look E b=some w): j_ P E h [.tmp a,.tmp b]=some (.aX [v,w]):=by simp only [j_,mapO,resE,I,J]
section
variable {told:cX} {h:H} {S:List au} {X Y:au} {r k q p bF a g bA:Nat} {op v x u wh di:V} {l b cR data:List Nat} {now:List (Int×List Nat)} {bE:Bool} {ε:aH}
theorem wY (I:W told){id:Nat}(s:Sat h S): Call ⟨Tryz.prog,told⟩ 62 [.map id] h fun v h'=>∃b,v=.fn (.func 120) [] [.ptr b 0]∧Sat h' (pt b (.cells 1 [.map id] false)::S):=by
 refine Call.of_wp (I.free _ rfl) Tryz.func62 rfl rfl (zg rfl ?_)
 refine az.cx s rfl rfl rfl (fB rfl rfl) (fun J h s => ?_)
 exact zk 4 rfl (zo rfl (LV rfl rfl) (zk 2 rfl (WP.ret ⟨aa,_,rfl,_,rfl,s⟩)))
theorem IY (I:W told)(s:Sat h (fo g a now bE::S))(hm:now.length≤1048576)(hk:∀n∈now.map (·.1),(Lit.int .i64 n).wf=true):
  Call ⟨Tryz.prog,told⟩ 112 [.ptr g 0] h fun v h'=>Sat h' (.arr 1 v (fQ (dO now))::fo g a now bE::S):=by
 obtain ⟨nv,s⟩:=dg.1 s
 obtain ⟨J,rfl⟩:=Co s (j:=1) rfl
 refine Call.of_wp (I.free _ rfl) Tryz.func112 rfl rfl (zK 8 rfl (zf rfl (nr _ _) (zl rfl (s.ld (k:=0) rfl lJ rfl) (zc rfl (wY I s) ?_))))
 rintro v h ⟨b,rfl,s⟩
 refine zc rfl (uN I (s.ae [0,1]) (by decide) hm hk) ?_
 intro kv h s
 exact zk 2 rfl (WP.ret ⟨aa,_,rfl,(dg.2 ⟨.map J,(s.ae [3,2,0]).del 3⟩).ae [1]⟩)
noncomputable def UW : Code:=fC [1,1,0,1,0,0] ((Tryz.f58.body).getD .skip)
theorem CP (hT:W told){ks:List Int}{kv:V}(UX:ks.length≤65536)(CQ:∀n∈ks,(lookL n now).isSome=true)(s_:∀e∈now,e.2.length=512): ∀(j i:Nat) (acc:List cY) (av:V) (cs:List V) (ε:aH) (h:H) (E:List (Nat×V)) (Q:Ex→List (Nat×V)→H→Prop),i+j=ks.length →
  ig ε→cf ε≤268435456→acc.length≤512*i →
  Sat h (.arr 4 av cs::cZ cs acc::fo g a now bE::dP a p q r op data bA::dB r p q ε.1::bU q p ε.2.1::bj p ε.2.2::.arr 1 kv (fQ ks)::S) →
  Has E [(0,.ptr g 0),(4,av),(13,kv),(14,.int .i64 ks.length),(15,.int .i64 i)] →
  (∀e c ε' E' h',jh now (ks.drop i) ε e c ε'→e≠0→look E' 2=some .bq→look E' 3=some (.int .i64 e)→Sat h' (fo g a now bE::dP a p q r op data bA::dB r p q ε'.1::bU q p ε'.2.1::bj p ε'.2.2::S)→Q .ret E' h') →
  (∀c ε' E' h' tG cs',jh now (ks.drop i) ε 0 c ε'→acc.length+c.length≤512*ks.length→Has E' [(4,tG)]→Sat h' (.arr 4 tG cs'::cZ cs' (acc++c)::fo g a now bE::dP a p q r op data bA::dB r p q ε'.1::bU q p ε'.2.1::bj p ε'.2.2::S)→Q (.exit 0) E' h') →
  WP ⟨Tryz.prog,told⟩ 65 (.loop UW) E h Q:=by
 intro j
 induction j with
 | zero =>
  intro i acc av cs ε h E Q hj gU hw PN s hE hr hx
  refine WP.loop (WP.has hE (zg rfl (zh rfl (ag rfl rfl aO) (by simp <;> omega) ?_)))
  refine zk 3 rfl (WP.exit ?_)
  rw [fY (by omega)] at hx
  have s1:=s.del 7
  dsimp only [bk] at s1
  refine hx [] ε _ _ av cs (.nil ε) (by simp; omega) ⟨rfl,aa⟩ ?_
  rw [fH]
  exact s1
 | succ j ih =>
  intro i acc av cs ε h E Q hj gU hw PN s hE hr hx
  have hn:ks[i]?=some (ks[i]'(by omega)):=aN _
  have wJ:ks[i]'(by omega)∈ks:=oX _
  have oM:ks.drop i=ks[i]'(by omega)::ks.drop (i+1):=va (by omega)
  generalize (ks[i]'(by omega))=n at hn wJ oM
  have hc:(fQ ks)[i]?=some (.int .i64 n):=by simp [fQ,hn]
  obtain ⟨b,hb⟩:=Option.isSome_iff_exists.1 (CQ n wJ)
  have BE:=s_ _ (jK hb)
  simp only at BE
  rw [oM] at hr hx
  obtain ⟨id,off,e1,e2⟩:=jZ (P:=Tryz.prog) s (k:=7) rfl hc cB lD
  refine WP.loop (WP.has hE (zg rfl (zt rfl (ag rfl rfl aO) (by simp <;> omega) ?_)))
  refine zk 5 rfl (WP.block (zg rfl (zo rfl (cI (r:=.ptr id off) rfl rfl e1) (zl rfl (e2 _ eG) ?_))))
  obtain ⟨nv,s⟩:=dg.1 (s.ae [2])
  dsimp only [bringA,getA,bk] at s
  refine zk 6 rfl (zf rfl (mc _ _) (zl rfl (s.ld (k:=0) rfl uq rfl) (zm rfl (zc rfl (wV (n:=n) hT (s.ae [4,4,4,4]) gU.ok gU.pins (b5 qm hw)) ?_))))
  rintro v h ⟨e,w,ε',J,(⟨he,rfl,s⟩ | ⟨rfl,u,rfl,s⟩)⟩
  ·dsimp only [bringA,getA,bk] at s
   refine zk 10 rfl (zt rfl (ag rfl rfl aF) (by simp; exact he) ?_)
   refine zk 8 rfl (WP.ret (hr e [] ε' _ _ (.err n _ ε e w ε' J he) he rfl rfl ?_))
   have s:=dg.2 ⟨nv,s.ae [4,4]⟩
   dsimp only [bringA,getA,bk] at s
   exact ((s.del 7).del 6).del 5
  ·dsimp only [bringA,getA,bk] at s
   have Ba:=J.lH gU
   have nQ:=b5 J.cf hw
   have hlen:=J.len gU
   refine zk 10 rfl (zh rfl (ag rfl rfl aF) (rfl) ?_)
   have s:=s.gH
   have s:=s.ae [5,5,1,1,1,1,1,1,1,0]
   dsimp only [bringA,getA,bk] at s
   rcases mh (n:=n) (fun _ _=>a_.cr _ _) (s.ae [1]) nV bG og with ⟨g1,g2,_⟩ | ⟨nw,b',g1,_,g2,s2⟩
   ·rw [hb] at g1; cases g1
   rw [hb] at g1
   have:=bH g1
   subst this
   refine zk 7 rfl (zf rfl (nr _ _) (zl rfl (s.ld (k:=0) rfl lJ rfl) (zm rfl (zo rfl (iI rfl rfl g2) ?_))))
   obtain ⟨dv,s⟩:=cF.1 (s2.ae [3])
   dsimp only [bringA,getA,bk] at s
   have s:=s.ae [4]
   dsimp only [bringA,getA,bk] at s
   refine zk 6 rfl (zf rfl (mc _ _) (zl rfl (s.ld (k:=0) rfl uq rfl) (zn rfl (zf rfl (pH _ _) (zl rfl (s.ld (k:=1) rfl vB rfl) (zm rfl (zc rfl (PK (n:=n) hT (s.ae [5])) ?_)))))))
   rintro v h ⟨rfl,s⟩
   dsimp only [bringA,getA,bk] at s
   refine zk 10 rfl ?_
   cases hd:(lookL n ε'.1.bV).isSome with
   | true =>
    refine zK 6 rfl (zc rfl (IX hT (u:=u) (v:=nw) (pg:=n) (s.ae [11,4]) (d_ _ _) (d_ _ _) hlen BE) ?_)
    rintro rv h ⟨PR,c,hc,kq,s⟩
    dsimp only [bringA,getA,bk] at s
    obtain ⟨i1,jI,iq,r9⟩:=wX
    have Ta:cs.length=acc.length*4:=by
     obtain ⟨a,b,q1,q2,q3⟩:=s.at (k:=12) rfl
     exact nB q3
    have V3:PR.length=c.length*4:=by
     obtain ⟨a,b,q1,q2,q3⟩:=s.at (k:=1) rfl
     exact nB q3
    obtain ⟨tG,h2,r_,s2⟩:=ie (s.ae [11,0]) iM jI qF iq (by omega) rfl (by decide) (by omega)
    dsimp only [bringA,getA,bk] at s2
    refine az.any rfl rfl rfl (OpR.of (R:=fun v h'=>v=tG∧h'=h2) (kS rfl rfl r_) ⟨rfl,rfl⟩) ?_
    rintro v' h' ⟨rfl,rfl⟩
    refine za rfl (zv (zr rfl (zb rfl (by exact aV (aA (by omega) (by omega))) ?_)))
    refine zm rfl (zv ?_)
    have s3:Sat _ (cZ cs acc::cZ PR c::_):=s2.ae [12,2]
    have s4:=s3.two (C:=cZ (cs++PR) (acc++c)) (a_.nX _ _) (a_.nX _ _) fun a b q1 q2=>wR q1 q2
    dsimp only [bringA,getA,bk] at s4
    have s5:=cF.2 ⟨dv,s4.ae [7,7]⟩
    dsimp only [bringA,getA,bk] at s5
    have s6:=dg.2 ⟨nv,s5.ae [7,7]⟩
    dsimp only [bringA,getA,bk] at s6
    have s7:=(((s6.ae [3,2,0,0,3,3,3,3]).del 10).del 9).del 8
    dsimp only [bringA,getA,bk] at s7
    refine ih (i+1) (acc++c) _ _ ε' _ _ Q (by omega) Ba nQ (by simp; omega) s7 ⟨rfl,rfl,rfl,rfl,rfl,aa⟩ (fun e c' I E' h' ht he l2 l3 s' => ?_) (fun c' I E' h' KZ tO ht hl kB s' => ?_)
    ·exact hr e _ I E' h' (.part n _ ε w b ε' c e c' I J hb hd hc kq ht) he l2 l3 s'
    ·refine hx (c++c') I E' h' KZ tO (.part n _ ε w b ε' c 0 c' I J hb hd hc kq ht) (by simp at hl ⊢; omega) kB ?_
     rw [←eZ]
     exact s'
   | false =>
    refine zK 5 rfl (zc rfl (oL hT (s.ae [4]) (d_ _ _) (by omega)) ?_)
    intro cw h s
    dsimp only [bringA,getA,bk] at s
    obtain ⟨wid,_,K0,_,rfl,_⟩:=s.eo (by omega)
    have s:=s.gH
    refine zo rfl (cW rfl (by rw [Gc]; rfl)) ?_
    obtain ⟨rv,h1,uP,s1⟩:=kU (P:=Tryz.prog) (k:=4) (x:=.agg [.int .i64 n,.int .i64 0,.bool true,.sl wid 0 b.length K0]) s iM qF vG rfl (by decide) (by decide) rfl rfl
    dsimp only [V.cells] at s1
    refine az.any rfl rfl rfl (OpR.of (R:=fun v h'=>v=rv∧h'=h1) (lP rfl uP) ⟨rfl,rfl⟩) ?_
    rintro v' h' ⟨rfl,rfl⟩
    obtain ⟨i1,jI,iq,r9⟩:=wX
    have Ta:cs.length=acc.length*4:=by
     obtain ⟨a,b,q1,q2,q3⟩:=s1.at (k:=11) rfl
     exact nB q3
    obtain ⟨tG,h2,r_,s2⟩:=ie (s1.ae [10,0]) iM jI qF iq (by omega) rfl (by decide) (by simp only [bf,bR]; omega)
    dsimp only [bringA,getA,bk] at s2
    refine az.any rfl rfl rfl (OpR.of (R:=fun v h'=>v=tG∧h'=h2) (kS rfl rfl r_) ⟨rfl,rfl⟩) ?_
    rintro v' h' ⟨rfl,rfl⟩
    refine za rfl (zv (zr rfl (zb rfl (by exact aV (aA (by omega) (by omega))) ?_)))
    refine zm rfl (zv ?_)
    have s3:Sat _ (cZ cs acc::.cr (.sl wid 0 b.length K0) b::_):=s2.ae [11,2]
    have s4:=s3.two (C:=cZ (cs++[.int .i64 n,.int .i64 0,.bool true,.sl wid 0 b.length K0]) (acc++[⟨n,0,true,b⟩])) (a_.nX _ _) (a_.cr _ _) fun a b q1 q2=>wR q1 ⟨⟨⟨rfl,rfl,rfl⟩,q2⟩,aa⟩
    have s5:=cF.2 ⟨dv,s4.ae [6,6]⟩
    have s6:=dg.2 ⟨nv,s5.ae [6,6]⟩
    have s7:=(((s6.ae [3,2,0,0,2,2,2,2]).del 10).del 9).del 8
    dsimp only [bringA,getA,bk] at s7
    refine ih (i+1) (acc++[⟨n,0,true,b⟩]) _ _ ε' _ _ Q (by omega) Ba nQ (by simp; omega) s7 ⟨rfl,rfl,rfl,rfl,rfl,aa⟩ (fun e c' I E' h' ht he l2 l3 s' => ?_) (fun c' I E' h' KZ tO ht hl kB s' => ?_)
    ·exact hr e _ I E' h' (.whole n _ ε w b ε' e c' I J hb hd ht) he l2 l3 s'
    ·refine hx (⟨n,0,true,b⟩::c') I E' h' KZ tO (.whole n _ ε w b ε' 0 c' I J hb hd ht) (by simp at hl ⊢; omega) kB ?_
     rw [eZ] at s'
     exact s'
theorem GD (hT:W told)(s:Sat h (fo g a now bE::dP a p q r op data bA::dB r p q ε.1::bU q p ε.2.1::bj p ε.2.2::S))(gU:ig ε)(hw:cf ε≤268435456)(I:∀e∈now,e.2.length=512)(hm:now.length≤65536)(hk:∀n∈now.map (·.1),(Lit.int .i64 n).wf=true):
  Call ⟨Tryz.prog,told⟩ 58 [.ptr g 0] h fun v h'=>∃e c ε',jh now (dO now) ε e c ε' ∧
   ((e≠0∧v=.aX [.bq,.int .i64 e]∧Sat h' (fo g a now bE::dP a p q r op data bA::dB r p q ε'.1::bU q p ε'.2.1::bj p ε'.2.2::S)) ∨
    (e=0∧c.length≤33554432∧∃av cs,v=.aX [av,.int .i64 0]∧Sat h' (.arr 4 av cs::cZ cs c::fo g a now bE::dP a p q r op data bA::dB r p q ε'.1::bU q p ε'.2.1::bj p ε'.2.2::S))):=by
 have hl:(dO now).length=now.length:=by rw [dO,(eX _).length_eq,eM]
 refine Call.of_wp (hT.free _ rfl) Tryz.func58 rfl rfl (zK 13 rfl (zc rfl (IY hT s (by omega) hk) ?_))
 intro kv h s
 refine zo rfl (aQ rfl rfl rfl (s.gI (n:=(dO now).length) (j:=0) rfl (by simp [fQ]) (by decide) cB)) ?_
 refine zk 2 rfl (WP.block ?_)
 have s1:=(((s.hO aa).mN (k:=4)).gR fun a b q=>q).ae [0,0,1,1,1,1,1,0]
 refine CP hT (ks:=dO now) (now:=now) (by omega) (fun n hn => ?_) I (dO now).length 0 [] .bq [] ε _ _ _ (by omega) gU hw (by simp) s1 ⟨rfl,rfl,rfl,rfl,rfl,aa⟩ (fun e c ε' E' h' J he l2 l3 s' => ?_) (fun c ε' E' h' av cs J kq kB s' => ?_)
 ·have:n∈now.map (·.1):=(eX _).mem_iff.1 hn
  cases hq:lookL n now with
  | some _=>rfl
  | none=>exact absurd this (mP.1 hq)
 ·rw [ej] at J
  exact ⟨aa,_,KY l2 l3,e,c,ε',J,.inl ⟨he,rfl,s'⟩⟩
 ·rw [ej] at J
  have s:=s'
  exact WP.has kB (zK 6 rfl (WP.ret ⟨aa,_,rfl,0,c,ε',J,.inr ⟨rfl,by simp at kq; omega,_,_,rfl,s⟩⟩))
end
theorem uR {b:List Nat}{n:Nat}(I:bN b=true): (cO b n).length=512:=by
 have J:=sU (n:=n) (gx I)
 rw [cO,cm (by rw [dw]; omega),J]
def gC (π:Pl)(n:Int)(b:List Nat)(aL:Nat): Int×Pl :=
 (if (jm π n b aL).1=0 then (unpinF (jm π n b aL).2 n).1 else (jm π n b aL).1,(unpinF (jm π n b aL).2 n).2)
def wZ (π:Pl)(n:Int)(i:Nat)(f:Fm)(b:List Nat)(aL:Nat): Pl :=
 { π with ah:=π.ah.set i { f with b:=cO b aL,changed:=true,pins:=0 },bV:=dr n (jQ π n aL,true) π.bV }
theorem yJ {π:Pl}{n:Int}{i:Nat}{f:Fm}{b:List Nat}{aL:Nat}(J:lookL n π.aY=some (i:Int))(I:π.ah[i]?=some f)(hp:f.pins=1)(hg:bN b=true): gC π n b aL=(0,wZ π n i f b aL):=by
 have h1:=(qj J I hp).1
 have hi:=(List.getElem?_eq_some_iff.1 I).1
 have e1:jm π n b aL=(0,{ π with ah:=π.ah.set i { f with b:=cO b aL,changed:=true },bV:=dr n (jQ π n aL,true) π.bV }):=by
  simp only [jm,h1,I,hg,Bool.true_eq_false,bx]
 have e2:=(qj (π:={ π with ah:=π.ah.set i { f with b:=cO b aL,changed:=true },bV:=dr n (jQ π n aL,true) π.bV }) (n:=n) (f:={ f with b:=cO b aL,changed:=true }) J (fG hi) hp).2
 simp only [gC,e1,e2,bu,vn]
 rfl
theorem IZ {π:Pl}{n:Int}{i:Nat}{f:Fm}{b:List Nat}{aL:Nat}(J:lookL n π.aY=some (i:Int))(I:π.ah[i]?=some f)(hp:f.pins=1)(hg:bN b=false): gC π n b aL=(4,{ π with ah:=π.ah.set i { f with pins:=0 } }):=by
 have h1:=(qj J I hp).1
 have e1:jm π n b aL=(4,π):=by simp only [jm,h1,I,hg,bu]
 have e2:=(qj J I hp).2
 simp only [gC,e1,e2]
 rfl
theorem Ns {π:Pl}{n:Int}{b:List Nat}{aL:Nat}(h:π.Ok): (jm π n b aL).2.Ok:=by
 unfold jm
 split
 ·exact h
 ·split
  ·exact h
  ·rename_i f J
   have hm:=aU J
   split
   ·exact h
   ·rename_i I
    have I:bN b=true:=by simpa using I
    exact h.set h.aY (by simp only [uR I]; omega) (h.pins f hm)
theorem eu.put {ε ε':aH}{n:Int}{b0 b:List Nat}{aL:Nat}(hr:eu ε n 0 b0 ε')(h:ig ε): ig ((gC ε'.1 n b aL).2,ε'.2)∧Am.cf ((gC ε'.1 n b aL).2,ε'.2)≤Am.cf ε+1∧(bN b=true→(gC ε'.1 n b aL).1=0):=by
 have I:=hr.ok h.ok h.pins
 have J:=(hr.full h.ok.dk h.full).1
 obtain ⟨i,f,h1,h2,h3,h4,h5⟩:=hr.at h.pins
 have hm:=aU h2
 have uS:=hr.cf
 cases hg:bN b with
 | true =>
  rw [yJ h1 h2 h3 hg]
  refine ⟨⟨⟨I.pl.set I.pl.aY (by simp only [uR hg]; omega) (by simp),I.lg,I.dk⟩,h5 _ rfl,J.set h2 rfl fun _=>uR hg⟩,?_,fun _=>rfl⟩
  have h6:=j0 (g:={ f with b:=cO b aL,changed:=true,pins:=0 }) h2
  simp only [Bool.toNat_true] at h6
  simp only [Am.cf,wZ] at uS ⊢
  omega
 | false =>
  rw [IZ h1 h2 h3 hg]
  refine ⟨⟨⟨I.pl.set I.pl.aY (I.pl.len f hm) (by simp),I.lg,I.dk⟩,h5 _ rfl,J.set h2 rfl fun hl=>hl⟩,?_,fun h=>by cases h⟩
  have h6:=j0 (g:={ f with pins:=0 }) h2
  simp only [Am.cf] at uS h6 ⊢
  omega
inductive nZ (now:List (Int×List Nat))(aL:Nat): List Int→aH→Int→aH→Prop where
 | nil (ε:aH):nZ now aL [] ε 0 ε
 | gy (n:Int) (l:List Int) (ε:aH) (e:Int) (b:List Nat) (ε':aH) (hr:eu ε n e b ε') (he:e≠0):nZ now aL (n::l) ε e ε'
 | bad (n:Int) (l:List Int) (ε:aH) (b0 b:List Nat) (ε':aH) (hr:eu ε n 0 b0 ε') (hb:lookL n now=some b) (he:(gC ε'.1 n b aL).1≠0):nZ now aL (n::l) ε (gC ε'.1 n b aL).1 ((gC ε'.1 n b aL).2,ε'.2)
 | put (n:Int) (l:List Int) (ε:aH) (b0 b:List Nat) (ε':aH) (e:Int) (jL:aH) (hr:eu ε n 0 b0 ε') (hb:lookL n now=some b) (he:(gC ε'.1 n b aL).1=0) (ht:nZ now aL l ((gC ε'.1 n b aL).2,ε'.2) e jL):nZ now aL (n::l) ε e jL
theorem nZ.lH {now:List (Int×List Nat)}{aL:Nat}{l:List Int}{ε ε':aH}{e:Int}(I:nZ now aL l ε e ε')(h:ig ε): ig ε':=by
 induction I with
 | nil ε=>exact h
 | gy n l ε e b ε' I he=>exact ⟨I.ok h.ok h.pins,I.E9 he h.pins,(I.full h.ok.dk h.full).1⟩
 | bad n l ε b0 b ε' I hb he=>exact (I.put h).1
 | put n l ε b0 b ε' e J I hb he ht ih=>exact ih (I.put h).1
theorem nZ.cf {now:List (Int×List Nat)}{aL:Nat}{l:List Int}{ε ε':aH}{e:Int}(I:nZ now aL l ε e ε')(h:ig ε): Am.cf ε'≤Am.cf ε+l.length:=by
 induction I with
 | nil ε=>exact aE _
 | gy n l ε e b ε' I he=>have:=I.cf; omega
 | bad n l ε b0 b ε' I hb he=>have:=(I.put (b:=b) (aL:=aL) h).2.1; simp only [bf]; omega
 | put n l ε b0 b ε' e J I hb he ht ih=>have h1:=ih (I.put h).1; have:=(I.put (b:=b) (aL:=aL) h).2.1; simp only [bf]; omega
theorem Q3 {h:H}{id c:Nat}{es:fl}{n:Int}{u:V}{t kt et:TypeId}{k:IntKind}{z:V}(J:T.get h.tr id=some (.map (es.map rX) c))(he:lookE n es=some u)(hu:Tryz.prog.underlying t=some (.map kt et))(hk:Tryz.prog.underlying kt=some (.int k))(hz:zeroT Tryz.prog et=some z):
  dI Tryz.prog h t (.map id) (.int .i64 n) false=some u:=by
 have hi:=nR (n:=n) es 0
 simp only [dI,lookupV,hu,hk,hz,J,keyBeq,c6,af,rY]
 cases I:idxE n es 0 with
 | none=>rw [I] at hi; rw [he] at hi; cases hi
 | some q=>rw [I] at hi; rw [he] at hi; obtain ⟨j,w⟩:=q; have:=bH hi; simp only at this; subst this; rfl
section
variable {told:cX} {h:H} {S:List au} {X Y:au} {r k q p bF a g bA:Nat} {op v x u wh di:V} {l b cR data:List Nat} {now:List (Int×List Nat)} {bE:Bool} {ε:aH}
noncomputable def UY : Code:=fC [1,1,1,1,1,1,1,1,0,1,0,0] ((Tryz.f26.body).getD .skip)
theorem I0 (hT:W told){ks:List Int}{kv dv:V}{aL sg c:Nat}{es:fl}(UX:ks.length≤65536)(CQ:∀n∈ks,(lookL n now).isSome=true)(s_:∀e∈now,e.2.length=512): ∀(j i:Nat) (ε:aH) (h:H) (E:List (Nat×V)) (Q:Ex→List (Nat×V)→H→Prop),i+j=ks.length →
  ig ε→cf ε+j≤268435456 →
  Sat h (pt g (.cells 3 [.ptr a 0,.map sg,.bool bE] false)::iK sg es c::fD (fun v b=>.cr v b) es now::pt a (.cells 6 (E8 a p q r op dv bA) false)::dB r p q ε.1::bU q p ε.2.1::bj p ε.2.2::.arr 1 kv (fQ ks)::S) →
  Has E [(0,.ptr g 0),(6,.ptr a 0),(8,.int .u64 (aL:Int)),(73,kv),(74,.int .i64 ks.length),(75,.int .i64 i)] →
  (∀e ε' E' h',nZ now aL (ks.drop i) ε e ε'→e≠0→look E' 4=some (.int .u64 0)→look E' 5=some (.int .i64 e)→Sat h' (pt g (.cells 3 [.ptr a 0,.map sg,.bool bE] false)::iK sg es c::fD (fun v b=>.cr v b) es now::pt a (.cells 6 (E8 a p q r op dv bA) false)::dB r p q ε'.1::bU q p ε'.2.1::bj p ε'.2.2::S)→Q .ret E' h') →
  (∀ε' E' h',nZ now aL (ks.drop i) ε 0 ε'→Has E' [(8,.int .u64 (aL:Int))]→Sat h' (pt g (.cells 3 [.ptr a 0,.map sg,.bool bE] false)::iK sg es c::fD (fun v b=>.cr v b) es now::pt a (.cells 6 (E8 a p q r op dv bA) false)::dB r p q ε'.1::bU q p ε'.2.1::bj p ε'.2.2::S)→Q (.exit 1) E' h') →
  WP ⟨Tryz.prog,told⟩ 118 (.loop UY) E h Q:=by
 intro j
 induction j with
 | zero =>
  intro i ε h E Q hj I hw s hE hr hx
  refine WP.loop (WP.has hE (zg rfl (zh rfl (ag rfl rfl aO) (by simp <;> omega) ?_)))
  refine zk 3 rfl (WP.exit ?_)
  rw [fY (by omega)] at hx
  exact hx ε _ _ (.nil ε) ⟨rfl,aa⟩ (s.del 7)
 | succ j ih =>
  intro i ε h E Q hj I hw s hE hr hx
  have hn:ks[i]?=some (ks[i]'(by omega)):=aN _
  have wJ:ks[i]'(by omega)∈ks:=oX _
  have oM:ks.drop i=ks[i]'(by omega)::ks.drop (i+1):=va (by omega)
  generalize (ks[i]'(by omega))=n at hn wJ oM
  have hc:(fQ ks)[i]?=some (.int .i64 n):=by simp [fQ,hn]
  obtain ⟨b,hb⟩:=Option.isSome_iff_exists.1 (CQ n wJ)
  have BE:=s_ _ (jK hb)
  simp only at BE
  rw [oM] at hr hx
  obtain ⟨id,off,e1,e2⟩:=jZ (P:=Tryz.prog) s (k:=7) rfl hc cB lD
  refine WP.loop (WP.has hE (zg rfl (zt rfl (ag rfl rfl aO) (by simp <;> omega) ?_)))
  refine zk 5 rfl (WP.block (zg rfl (zo rfl (cI (r:=.ptr id off) rfl rfl e1) (zl rfl (e2 _ eG) (zk 7 rfl (zf rfl (pH _ _) (zl rfl (s.ld (k:=3) rfl vB rfl) (zm rfl (zc rfl (IN (n:=n) hT (s.ae [4,4,4]) I.ok.pl I.pins I.ok.lg I.ok.dk (by have:=qm (ε:=ε); omega)) ?_)))))))))
  rintro v h ⟨e,b0,ε',CR,(⟨he,rfl,s⟩ | ⟨rfl,u0,rfl,s⟩)⟩
  ·dsimp only [bringA,getA,bk] at s
   refine zk 9 rfl (zt rfl (ag rfl rfl aF) (by simp; exact he) ?_)
   exact zk 8 rfl (WP.ret (hr e ε' _ _ (.gy n _ ε e b0 ε' CR he) he rfl rfl ((s.ae [3,3,3,3,0,0,0]).del 7)))
  ·dsimp only [bringA,getA,bk] at s
   have s:=s.drop
   have GF:=CR.put (b:=b) (aL:=aL) I
   have wz:=CR.ok I.ok I.pins
   refine zk 9 rfl (zh rfl (ag rfl rfl aF) (rfl) (zk 4 rfl ?_))
   have s1:Sat h (fD (fun v b=>.cr v b) es now::_):=s.ae [5]
   obtain ⟨_,_,_,_,q3⟩:=s1.at (k:=0) rfl
   rcases oK (n:=n) q3 with ⟨_,q4⟩ | ⟨u,b',g1,g2,_⟩
   ·rw [hb] at q4; cases q4
   rw [hb] at g2
   have:=bH g2
   subst this
   have s2:=(s1.dup (a_.Kw (fun _ _=>a_.cr _ _) _ _)).gR (B:=.cr u b) fun a' b' h'=>by
    rcases oK (n:=n) h' with ⟨_,q4⟩ | ⟨u',Rn,RV,RW,Px⟩
    ·rw [hb] at q4; cases q4
    ·rw [g1] at RV; rw [hb] at RW
     have h5:=bH RV
     have h6:=bH RW
     subst h5; subst h6
     exact Px
   dsimp only [bringA,getA,bk] at s2
   obtain ⟨uid,V4,V5,rfl⟩:=gw (s2.aK (k:=0) rfl (d_ _ _)) (by omega)
   have s:=s2.ae [2,0]
   dsimp only [bringA,getA,bk] at s
   have s0:=s
   refine WP.drawn [ak,ak,ak,ak,ak,ak,ak,ak,ak,ak,ak,ak,ak,ak] rfl (by kernel_rfl) (by kernel_rfl) ?_
   refine zM rfl (zN rfl (zF rfl (pH _ _) (zL rfl (s.ld (k:=7) rfl vB rfl) (zM rfl (zM rfl (zN rfl (zF rfl (nr _ _) (zL rfl (s.ld (k:=5) rfl lJ rfl) (zM rfl (zO rfl (iI rfl rfl (Q3 (s.row (k:=6) rfl) g1 nV bG og)) (zM rfl (aD.any rfl rfl rfl rfl (OpR.call rfl rfl rfl rfl (Nm (n:=n) (aL:=aL) (b:=b) hT s (d_ _ _) wz.pl (by omega))) ?_))))))))))))
   rintro v h ⟨rfl,s⟩
   refine zA rfl ?_
   refine aD.nil ⟨⟨aa,aa,aa,aa,aa,aa,aa,aa,aa,aa,aa,aa,aa,aa,aa⟩,?_⟩
   refine zK 5 rfl (zf rfl (pH _ _) (zl rfl (s.ld (k:=7) rfl vB rfl) (zm rfl (zc rfl (CJ (n:=n) hT s (Ns wz.pl)) ?_))))
   rintro v h ⟨rfl,s⟩
   refine zk 5 rfl ?_
   by_cases hg:(jm ε'.1 n b aL).1=0
   ·have Fc:(gC ε'.1 n b aL).1=(unpinF (jm ε'.1 n b aL).2 n).1:=by simp only [gC,hg,bu]
    have CT:(gC ε'.1 n b aL).2=(unpinF (jm ε'.1 n b aL).2 n).2:=rfl
    rw [←Fc,←CT] at *
    refine zt rfl (ag rfl rfl iJ) (by simp; exact hg) ?_
    refine zk 9 rfl ?_
    by_cases he:(gC ε'.1 n b aL).1=0
    ·skip
     refine zh rfl (ag rfl rfl aF) (by simp; exact he) ?_
     refine zv (zj rfl (WP.skip (zr rfl (zb rfl (by exact aV (aA (by omega) (by omega))) ?_))))
     refine zm rfl (zv ?_)
     have s9:=(s.ae [5,5,2,4,0,1,1,1]).del 8
     refine ih (i+1) ((gC ε'.1 n b aL).2,ε'.2) _ _ Q (by omega) GF.1 (by have h9:cf ((gC ε'.1 n b aL).2,ε'.2)≤cf ε+1:=GF.2.1; omega) s9 ⟨rfl,rfl,rfl,rfl,rfl,rfl,aa⟩ (fun e J E' h' ht xI l4 l5 s' => ?_) (fun J E' h' ht kB s' => ?_)
     ·exact hr e J E' h' (.put n _ ε b0 b ε' e J CR hb he ht) xI l4 l5 s'
     ·exact hx J E' h' (.put n _ ε b0 b ε' 0 J CR hb he ht) kB s'
    ·skip
     refine zt rfl (ag rfl rfl aF) (by simp; exact he) ?_
     exact zk 8 rfl (WP.ret (hr _ _ _ _ (.bad n _ ε b0 b ε' CR hb he) he rfl rfl (((s.ae [5,5,2,4,0,1,1,1]).del 8).del 7)))
   ·have Fc:(gC ε'.1 n b aL).1=(jm ε'.1 n b aL).1:=by simp only [gC,hg,bx]
    have CT:(gC ε'.1 n b aL).2=(unpinF (jm ε'.1 n b aL).2 n).2:=rfl
    rw [←Fc] at hg
    refine zh rfl (ag rfl rfl iJ) (by simp; rw [←Fc]; exact hg) ?_
    refine zk 6 rfl (zt rfl (ag rfl rfl aF) (by simp; rw [←Fc]; exact hg) ?_)
    refine zk 8 rfl (WP.ret (hr _ _ _ _ (.bad n _ ε b0 b ε' CR hb hg) hg rfl (by rw [Fc]; rfl) ?_))
    exact ((s.ae [5,5,2,4,0,1,1,1]).del 8).del 7
end
end Go.Proofs.YtefepnnfphdkpaaGreat.Am
