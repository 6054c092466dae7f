/- ChainKept: a part of its proof; conditions: its statement's. -/
import Derived.Test.YtefepnnfphdkpaaGreatC24
namespace Go.Proofs.YtefepnnfphdkpaaGreat.Am
open Go
inductive uu (bf:Int)(c7 now:List Nat): Nat→List dn→Prop where
 | done (i:Nat) (h:now.length≤i):uu bf c7 now i []
 | skip (i:Nat) (l:List dn) (h:i<now.length) (he:c7[i]?=now[i]?) (hr:uu bf c7 now (i+1) l):uu bf c7 now i l
 | take (i e:Nat) (l:List dn) (h1:i<e) (h2:e≤now.length) (h3:c7[i]?≠now[i]?) (h4:∀k,e≤k→k<e+8→c7[k]?=now[k]?) (hr:uu bf c7 now e l):uu bf c7 now i (⟨bf,i,false,(now.take e).drop i⟩::l)
def J_ (bf:Int)(c7 now:List Nat)(c:List dn): Prop:=∃l,uu bf c7 now 12 l∧c=if l=[] then [⟨bf,0,false,[]⟩] else l
theorem xY : ∃i,Tryz.prog.info? 180=some i∧i.size=4∧i.bytes=48 :=
 ⟨_,(show Tryz.prog.info? 180=some ((Tryz.prog.info? 180).getD default) by kernel_rfl),by kernel_rfl,by kernel_rfl⟩
section
variable {told:cN} {h:H} {S:List aq} {X Y:aq} {r k q p bM a g bz:Nat} {op v x u wh di:V} {l b c7 now:List Nat}
noncomputable def Xb : Code:=eD [1,1,0,1,0,0] ((Tryz.f115.body).getD .skip)
noncomputable def Xc : Code:=eD [1,1,0,1,0,0,1,0,1,1,0,1,0,0] ((Tryz.f115.body).getD .skip)
theorem Mk {pg:Int}{I:Nat}{t7:V}{k1 k2:Nat}(s:Sat h S)(uM:getA S k1=some X)(hX:cO X (cR u c7))(JH:getA S k2=some Y)(hY:cO Y (cR v now))(DE:c7.length=512)(jy:now.length=512): ∀(j i e:Nat) (E:List (Nat×V)) (Q:Ex→List (Nat×V)→H→Prop),i+j=512→I<e→e≤i→(∀k,e≤k→k<i→c7[k]?=now[k]?) →
  Has E [(0,.int .i64 pg),(1,u),(2,v),(7,t7),(8,.int .i64 (I:Int)),(9,.int .i64 (e:Int)),(10,.int .i64 (i:Int))] →
  (∀J E',I<J→J≤512→(∀k,J≤k→k<J+8→c7[k]?=now[k]?)→Has E' [(0,.int .i64 pg),(1,u),(2,v),(7,t7),(8,.int .i64 (I:Int)),(9,.int .i64 (J:Int))]→Q (.exit 2) E' h) →
  WP ⟨Tryz.prog,told⟩ 71 (.loop Xc) E h Q:=by
 have hv:=s.aH JH hY
 have hu:=s.aH uM hX
 have hlen:lenV Tryz.prog h 28 v=some (.int .i64 now.length):=aW aG hv
 intro j
 induction j with
 | zero =>
  intro i e E Q hi h1 h2 hg hE hq
  refine WP.loop (WP.has hE (zK 5 rfl (zo rfl (aM rfl rfl rfl hlen) (zh rfl (ag rfl rfl aP) (by simp <;> omega) ?_))))
  refine zk 8 rfl (WP.exit ?_)
  refine hq e _ h1 (by omega) (fun k k1 _ => ?_) ⟨rfl,rfl,rfl,rfl,rfl,rfl,aa⟩
  by_cases hk:k<i
  ·exact hg k k1 hk
  ·rw [pL (by omega),pL (by omega)]
 | succ j ih =>
  intro i e E Q hi h1 h2 hg hE hq
  have hb:now[i]?=some (now[i]'(by omega)):=aN _
  generalize (now[i]'(by omega))=b at hb
  have hc:c7[i]?=some (c7[i]'(by omega)):=aN _
  generalize (c7[i]'(by omega))=c at hc
  obtain ⟨id,off,e1,e2⟩:=dN hv hb
  obtain ⟨xj,off',e3,e4⟩:=dN hu hc
  refine WP.loop (WP.has hE (zK 5 rfl (zo rfl (aM rfl rfl rfl hlen) (zt rfl (ag rfl rfl aP) (by simp <;> omega) ?_))))
  refine zk 3 rfl (zb rfl (by exact bk (aA (by omega) (by omega))) ?_)
  by_cases hd:i<e+8
  ·skip
   refine zt rfl (ag rfl rfl aP) (by simp <;> omega) ?_
   refine zk 5 rfl (WP.block (zw ?_))
   have s0:=s
   refine WP.drawn [ak,ak,ak,ak,ak,ak,ak,ak,ak] rfl (by kernel_rfl) (by kernel_rfl) ?_
   refine zM rfl (zM rfl (zO rfl (cx (r:=.ptr xj off') rfl rfl e3) (zL rfl e4 (zM rfl (zM rfl (zO rfl (cx (r:=.ptr id off) rfl rfl e1) (zL rfl e2 ?_)))))))
   by_cases Gj:c=b
   ·skip
    refine aC.nc rfl rfl rfl rfl (ag rfl rfl aJ) (by simp; exact_mod_cast Gj) ?_
    refine aC.nil ⟨⟨aa,aa,aa,aa,aa,aa,aa,aa,aa,aa⟩,?_⟩
    refine zj rfl (WP.skip (zr rfl (zm rfl (zb rfl (by exact bk (aA (by omega) (by omega))) ?_))))
    refine za rfl (zv ?_)
    exact ih (i+1) e _ Q (by omega) h1 (by omega) (fun k k1 k2=>(by
     rcases iq k i with h | h
     ·exact hg k k1 h
     ·rw [show k=i by omega,hb,hc,Gj])) ⟨rfl,rfl,rfl,rfl,rfl,rfl,rfl,aa⟩ hq
   ·skip
    refine aC.zC rfl rfl rfl rfl (ag rfl rfl aJ) (by simp; omega) ?_
    refine aC.nil ⟨⟨aa,aa,aa,aa,aa,aa,aa,aa,aa,aa⟩,?_⟩
    refine zK 3 rfl (zb rfl (by exact bk (aA (by omega) (by omega))) ?_)
    refine za rfl (zv (zr rfl (zm rfl (zb rfl (by exact bk (aA (by omega) (by omega))) ?_))))
    refine za rfl (zv ?_)
    exact ih (i+1) (i+1) _ Q (by omega) (by omega) (by omega) (fun k k1 k2=>absurd k2 (by omega)) ⟨rfl,rfl,rfl,rfl,rfl,rfl,rfl,aa⟩ hq
  ·skip
   refine zh rfl (ag rfl rfl aP) (by simp <;> omega) ?_
   exact zk 3 rfl (WP.exit (hq e _ h1 (by omega) (fun k k1 k2=>hg k k1 (by omega)) ⟨rfl,rfl,rfl,rfl,rfl,rfl,aa⟩))
theorem Ml (hT:W told){pg:Int}(hX:cO X (cR u c7))(hY:cO Y (cR v now))(DE:c7.length=512)(jy:now.length=512): ∀(j i:Nat) (acc:List dn) (av:V) (cs:List V) (h:H) (E:List (Nat×V)) (Q:Ex→List (Nat×V)→H→Prop),512≤i+j→i≤512→acc.length≤i →
  Sat h (.arr 4 av cs::dr cs acc::X::Y::S)→(∀l,uu pg c7 now i l→uu pg c7 now 12 (acc++l)) →
  Has E [(0,.int .i64 pg),(1,u),(2,v),(7,av),(8,.int .i64 (i:Int))] →
  (∀uw cs' l E' h',uu pg c7 now 12 l→l.length≤512→Sat h' (.arr 4 uw cs'::dr cs' l::X::Y::S)→Has E' [(0,.int .i64 pg),(7,uw)]→Q (.exit 0) E' h') →
  WP ⟨Tryz.prog,told⟩ 71 (.loop Xb) E h Q:=by
 intro j
 induction j with
 | zero =>
  intro i acc av cs h E Q hj hi Rz s I hE hq
  have hlen:lenV Tryz.prog h 28 v=some (.int .i64 now.length):=aW aG (s.aH (k:=3) rfl hY)
  refine WP.loop (WP.has hE (zK 5 rfl (zo rfl (aM rfl rfl rfl hlen) (zh rfl (ag rfl rfl aP) (by simp <;> omega) ?_))))
  refine zk 2 rfl (WP.exit ?_)
  have:=I [] (.done _ (by omega))
  rw [fD] at this
  exact hq av cs acc _ _ this (by omega) s ⟨rfl,rfl,aa⟩
 | succ j ih =>
  intro i acc av cs h E Q hj hi Rz s I hE hq
  have hv:=s.aH (k:=3) rfl hY
  have hu:=s.aH (k:=2) rfl hX
  have hlen:lenV Tryz.prog h 28 v=some (.int .i64 now.length):=aW aG hv
  by_cases a_:i<512
  ·have hb:now[i]?=some (now[i]'(by omega)):=aN _
   generalize (now[i]'(by omega))=b at hb
   have hc:c7[i]?=some (c7[i]'(by omega)):=aN _
   generalize (c7[i]'(by omega))=c at hc
   obtain ⟨id,off,e1,e2⟩:=dN hv hb
   obtain ⟨xj,off',e3,e4⟩:=dN hu hc
   refine WP.loop (WP.has hE (zK 5 rfl (zo rfl (aM rfl rfl rfl hlen) (zt rfl (ag rfl rfl aP) (by simp <;> omega) ?_))))
   refine zk 3 rfl (WP.block (zK 2 rfl ?_))
   have s0:=s
   refine WP.drawn [ak,ak,ak,ak,ak,ak,ak,ak,ak] rfl (by kernel_rfl) (by kernel_rfl) ?_
   refine zM rfl (zM rfl (zO rfl (cx (r:=.ptr xj off') rfl rfl e3) (zL rfl e4 (zM rfl (zM rfl (zO rfl (cx (r:=.ptr id off) rfl rfl e1) (zL rfl e2 ?_)))))))
   by_cases Gj:c=b
   ·skip
    refine aC.zC rfl rfl rfl rfl (ag rfl rfl iz) (by simp; exact_mod_cast Gj) ?_
    refine aC.nil ⟨⟨aa,aa,aa,aa,aa,aa,aa,aa,aa,aa⟩,?_⟩
    refine zK 4 rfl (zb rfl (by exact bk (aA (by omega) (by omega))) ?_)
    exact zk 2 rfl (WP.exit (ih (i+1) acc av cs h _ Q (by omega) (by omega) (by omega) s (fun l hl=>I l (.skip i l (by omega) (by rw [hb,hc,Gj]) hl)) ⟨rfl,rfl,rfl,rfl,rfl,aa⟩ hq))
   ·skip
    refine aC.nc rfl rfl rfl rfl (ag rfl rfl iz) (by simp; omega) ?_
    refine aC.nil ⟨⟨aa,aa,aa,aa,aa,aa,aa,aa,aa,aa⟩,?_⟩
    refine zK 5 rfl (zb rfl (by exact bk (aA (by omega) (by omega))) ?_)
    refine zk 8 rfl (WP.block ?_)
    refine Mk s (k1:=2) (k2:=3) rfl hX rfl hY DE jy (512-(i+1)) (i+1) (i+1) _ _ (by omega) (AI i) (aD _) (fun k k1 k2=>absurd k2 (by omega)) ⟨rfl,rfl,rfl,rfl,rfl,rfl,rfl,aa⟩ (fun e' E' RA Gk Xd k8 => ?_)
    refine WP.has k8 ?_
    have Xe:=gV hv (a:=i) (b:=e') (by omega) (by omega)
    refine zK 8 rfl (zo rfl (eV (p:=some (.int .i64 (i:Int))) (q:=some (.int .i64 (e':Int))) (m:=none) (p':=some i) (q':=some e') (m':=none) rfl rfl rfl rfl (by rw [eX (by omega)]; rfl) (by rw [eX (by omega)]; rfl) rfl Xe.1) ?_)
    refine zc rfl (pH hT (s.ae [3]) (qD hY (a:=i) (b:=e') (by omega) (by omega)) (by simp; omega)) ?_
    intro w h s
    dsimp only [bringA,getA,aV] at s
    obtain ⟨wid,_,J,_,rfl,_⟩:=s.eF (by simp; omega)
    have s:=s.gF
    generalize No:(now.take e').drop i=bs at s
    refine zo rfl (cW rfl (by rw [Hy]; rfl)) ?_
    obtain ⟨rv,h1,Af,s1⟩:=j7 (P:=Tryz.prog) (k:=4) (x:=.agg [.int .i64 pg,.int .i64 (i:Int),.bool false,.sl wid 0 bs.length J]) s jc rF wK rfl (by decide) (by decide) rfl rfl
    dsimp only [V.cells] at s1
    refine az.any rfl rfl rfl (OpR.of (R:=fun v h'=>v=rv∧h'=h1) (kn rfl Af) ⟨rfl,rfl⟩) ?_
    rintro v' h' ⟨rfl,rfl⟩
    obtain ⟨i1,jb,gi,tc⟩:=xY
    have jf:cs.length=acc.length*4:=by
     obtain ⟨a,b,q1,q2,q3⟩:=s1.at (k:=4) rfl
     exact od q3
    obtain ⟨uw,h2,td,s2⟩:=fP (s1.ae [3,0]) jc jb rF gi (by omega) rfl (by decide) (by simp only [aO,bB]; omega)
    dsimp only [bringA,getA,aV] at s2
    refine az.any rfl rfl rfl (OpR.of (R:=fun v h'=>v=uw∧h'=h2) (kj rfl rfl td) ⟨rfl,rfl⟩) ?_
    rintro v' h' ⟨rfl,rfl⟩
    refine za rfl (zv (zr rfl (zk 2 rfl (zv ?_))))
    have s3:Sat _ (dr cs acc::.cu (.sl wid 0 bs.length J) bs::_):=s2.ae [4,2]
    have s4:=s3.two (C:=dr (cs++[.int .i64 pg,.int .i64 (i:Int),.bool false,.sl wid 0 bs.length J]) (acc++[⟨pg,i,false,bs⟩])) (aS.oK _ _) (aS.cu _ _) fun a b q1 q2=>xS q1 ⟨⟨⟨rfl,rfl,rfl⟩,q2⟩,aa⟩
    have s5:=(s4.ae [1,0,2,1]).del 4
    dsimp only [bringA,getA,aV] at s5
    refine ih e' (acc++[⟨pg,(i:Int),false,bs⟩]) _ _ _ _ Q (by omega) Gk (by simp; omega) s5 (fun l hl => ?_) ⟨rfl,rfl,rfl,rfl,rfl,aa⟩ hq
    have:=I _ (.take i e' l RA (by omega) (fun hx=>by rw [hb,hc] at hx; exact Gj (bI hx)) Xd hl)
    rw [No] at this
    rwa [eu]
  ·have Y5:i=512:=by omega
   refine WP.loop (WP.has hE (zK 5 rfl (zo rfl (aM rfl rfl rfl hlen) (zh rfl (ag rfl rfl aP) (by simp <;> omega) ?_))))
   refine zk 2 rfl (WP.exit ?_)
   have:=I [] (.done _ (by omega))
   rw [fD] at this
   exact hq av cs acc _ _ this (by omega) s ⟨rfl,rfl,aa⟩
theorem Ka (hT:W told){pg:Int}(s:Sat h (X::Y::S))(hX:cO X (cR u c7))(hY:cO Y (cR v now))(J:c7.length=512)(jy:now.length=512):
  Call ⟨Tryz.prog,told⟩ 115 [.int .i64 pg,u,v] h fun w h'=>∃cs l,J_ pg c7 now l∧l.length≤512∧Sat h' (.arr 4 w cs::dr cs l::X::Y::S):=by
 refine Call.of_wp (hT.free _ rfl) Tryz.func115 rfl rfl (zK 13 rfl (WP.block ?_))
 refine Ml hT (pg:=pg) hX hY J jy 500 12 [] .bp [] _ _ _ (by omega) (by omega) (by simp) ((s.gp aa).l7) (fun l hl=>hl) ⟨rfl,rfl,rfl,rfl,rfl,aa⟩ (fun uw cs' l E' h' hr T2 s' k8 => ?_)
 have s:=s'
 have hlen:=s.vo (j1:=0) (j2:=1) rfl rfl jc
 have NO:=s.kY (j:=0) rfl
 refine WP.has k8 (zK 4 rfl (zo rfl (aM rfl rfl rfl hlen) ?_))
 by_cases I:l=[]
 ·skip
  refine zt rfl (ag rfl rfl iz) (by subst I; rfl) ?_
  refine zk 5 rfl (zo rfl (cW rfl (by rw [Hy]; rfl)) ?_)
  obtain ⟨rv,h1,Af,s1⟩:=j7 (P:=Tryz.prog) (k:=4) (x:=.agg [.int .i64 pg,.int .i64 0,.bool false,.bp]) s jc rF wK rfl (by decide) (by decide) rfl rfl
  dsimp only [V.cells] at s1
  refine az.any rfl rfl rfl (OpR.of (R:=fun v h'=>v=rv∧h'=h1) (kn rfl Af) ⟨rfl,rfl⟩) ?_
  rintro v' h' ⟨rfl,rfl⟩
  refine zk 2 rfl (WP.ret ⟨aa,_,rfl,?_⟩)
  refine ⟨[.int .i64 pg,.int .i64 0,.bool false,.bp],[⟨pg,0,false,[]⟩],⟨l,hr,by rw [au I]⟩,by simp,?_⟩
  have s2:=(s1.del 2).del 1
  have s3:Sat _ (.cu .bp []::.arr 4 v' _::X::Y::S):=s2.rH
  have s4:=s3.hU (B:=dr [.int .i64 pg,.int .i64 0,.bool false,.bp] [⟨pg,0,false,[]⟩]) fun a b q=>⟨⟨⟨rfl,rfl,rfl⟩,q⟩,aa⟩
  exact s4.ae [1,0]
 ·skip
  refine zh rfl (ag rfl rfl iz) (by cases l with | nil=>exact absurd rfl I | cons _ _=>simp; omega) ?_
  exact zk 8 rfl (WP.ret ⟨aa,_,rfl,_,l,⟨l,hr,by rw [ai I]⟩,T2,s⟩)
end
def ga (m:List Fm): Nat:=(m.map (·.changed)).count true
theorem kD {f g:Fm}: ∀ {m:List Fm} {i:Nat},m[i]?=some f→ga (m.set i g)+f.changed.toNat=ga m+g.changed.toNat:=by
 intro m
 induction m with
 | nil=>intro i h; simp at h
 | cons x m I =>
  intro i h
  cases i with
  | zero =>
   simp at h
   subst h
   simp only [ga,List.set_cons_zero,cm,List.count_cons]
   cases x.changed <;> cases g.changed <;> simp
  | succ i =>
   rw [jQ] at h
   have:=I h
   simp only [ga,AE,cm,List.count_cons] at this ⊢
   omega
theorem Ag {g:Fm}(I:g.changed=false): ∀ {m:List Fm} {i:Nat},ga (m.set i g)≤ga m:=by
 intro m i
 cases h:m[i]? with
 | none =>
  have:m.length≤i:=by simpa using h
  rw [List.set_eq_of_length_le this]
  exact aD _
 | some f =>
  have:=kD (g:=g) h
  rw [I] at this
  simp only [Bool.toNat_false] at this
  omega
def cy (ε:aF): Nat:=ε.2.2.waiting.length+ga ε.1.ah
theorem qO {ε:aF}: ε.2.2.waiting.length≤cy ε:=AJ _ _
theorem eN.count {π I:Pl}(J:eN π I): ga I.ah=ga π.ah:=by
 have:I.ah.map (·.changed)=π.ah.map (·.changed):=by
  refine pQ fun i => ?_
  rw [gJ,gJ]
  cases h:π.ah[i]? with
  | none =>
   have h1:π.ah.length≤i:=by simpa using h
   have:I.ah[i]?=none:=by simp [J.len,h1]
   rw [this]
  | some f =>
   obtain ⟨t,ht⟩:=J.get i f h
   rw [ht]; rfl
 simp only [ga,this]
theorem DP {δ:Dk}{n:Int}{b:List Nat}(h:(δ.cS n b).1≠0): (δ.cS n b).2.waiting=δ.waiting:=by
 unfold Dk.cS at h ⊢
 split
 ·rfl
 ·rename_i I
  rw [ai I] at h
  split
  ·rfl
  ·rename_i J
   rw [ai J] at h
   split
   ·rfl
   ·rename_i h3
    rw [ai h3] at h
    exact absurd rfl h
theorem Mm {ε:aF}{i:Nat}: cy (outF ε i).2≤cy ε:=by
 unfold outF
 split
 ·exact aD _
 ·rename_i f J
  split
  ·exact aD _
  ·rename_i I
   have I:f.changed=true:=by cases h:f.changed <;> simp [h] at I ⊢
   split
   ·exact aD _
   ·split
    ·simp only [cy,nr]; exact aD _
    ·split
     ·rename_i hw
      simp only [cy,DP hw,nr]; exact aD _
     ·have h1:=E_ (δ:=(bR ε.2 (cP f.b 4 8)).2.2) (n:=f.bf) (b:=f.b)
      rw [nr] at h1
      have h2:=kD (g:={ f with changed:=false }) J
      simp only [I,Bool.toNat_true,Bool.toNat_false] at h2
      simp only [cy]
      omega
theorem vy {π:Pl}{i:Nat}{f:Fm}: ga (cK π i f).ah≤ga π.ah:=Ag rfl
theorem eO.cy {ε ε':aF}{n e:Int}{b:List Nat}(hr:eO ε n e b ε'): Am.cy ε'≤Am.cy ε:=by
 have om:∀ {I:Pl},eN ε.1 I→∀i,Am.cy (outF (I,ε.2) i).2≤Am.cy ε:=fun {I} J i=>by
  have:=Mm (ε:=(I,ε.2)) (i:=i)
  refine cn this ?_
  simp only [Am.cy,J.count]
  exact aD _
 cases hr with
 | arg _=>exact aD _
 | Ab i f h1 h2 hl hf =>
  have h2:=kD (g:={ f with dK:=true,pins:=f.pins+1 }) hf
  simp only [Am.cy] at h2 ⊢
  omega
 | out I i f h1 h2 hl J hf hh he=>exact om J i
 | read I i f h1 h2 hl J hf hh he hr=>exact cn (vS vy _) (om J i)
 | bad I i f h1 h2 hl J hf hh he hr hc=>exact cn (vS vy _) (om J i)
 | load I i f h1 h2 hl J hf hh he hr hc=>exact cn (vS (cn (Ag rfl) vy) _) (om J i)
theorem Ah {π:Pl}{n:Int}: ga (unpinF π n).2.ah=ga π.ah:=by
 unfold unpinF
 split
 ·rfl
 ·split
  ·rfl
  ·rename_i i hi f I
   have J:=kD (g:={ f with pins:=f.pins-1 }) I
   simp only at J ⊢
   omega
theorem kK.cy {ε ε':aF}{n e:Int}{b:List Nat}(I:kK ε n e b ε'): Am.cy ε'≤Am.cy ε:=by
 cases I with
 | dead _=>exact aD _
 | gG e b ε' hd I he=>exact I.cy
 | pK b ε' hd I he=>have:=I.cy; simp only [Am.cy,Ah] at this ⊢; exact this
 | read b ε' hd I he=>have:=I.cy; simp only [Am.cy,Ah] at this ⊢; exact this
theorem mS.cy {ε ε':aF}{now:List (Int×List Nat)}{bK:Bool}{n e:Int}{b:List Nat}(I:mS ε now bK n e b ε'): Am.cy ε'≤Am.cy ε:=by
 cases I with
 | arg _=>exact aD _
 | bK _ _ _=>exact aD _
 | own _ _ _ _ _=>exact aD _
 | read e b ε' J h2 h3 hl I=>exact I.cy
theorem qN.cy {ε ε':aF}{now b6:List (Int×List Nat)}{bK:Bool}{n e:Int}{b:List Nat}(I:qN ε now bK n b e b6 ε'): Am.cy ε'≤Am.cy ε:=by
 cases I with
 | may e c ε' I he=>exact I.cy
 | bad c ε' I J=>exact I.cy
 | done c ε' I J=>exact I.cy
inductive jA (now:List (Int×List Nat)): List Int→aF→Int→List dn→aF→Prop where
 | nil (ε:aF):jA now [] ε 0 [] ε
 | err (n:Int) (l:List Int) (ε:aF) (e:Int) (b:List Nat) (ε':aF) (hr:kK ε n e b ε') (he:e≠0):jA now (n::l) ε e [] ε'
 | part (n:Int) (l:List Int) (ε:aF) (c7 b:List Nat) (ε':aF) (c:List dn) (e:Int) (cs:List dn) (jg:aF) (hr:kK ε n 0 c7 ε') (hb:lookL n now=some b) (hd:(lookL n ε'.1.b_).isSome=true) (hc:J_ n c7 b c) (hl:c.length≤512) (ht:jA now l ε' e cs jg):jA now (n::l) ε e (c++cs) jg
 | whole (n:Int) (l:List Int) (ε:aF) (c7 b:List Nat) (ε':aF) (e:Int) (cs:List dn) (jg:aF) (hr:kK ε n 0 c7 ε') (hb:lookL n now=some b) (hd:(lookL n ε'.1.b_).isSome=false) (ht:jA now l ε' e cs jg):jA now (n::l) ε e (⟨n,0,true,b⟩::cs) jg
theorem jA.l_ {now:List (Int×List Nat)}{l:List Int}{ε ε':aF}{e:Int}{cs:List dn}(I:jA now l ε e cs ε')(h:iJ ε): iJ ε':=by
 induction I with
 | nil ε=>exact h
 | err n l ε e b ε' I he=>exact I.l_ h
 | part n l ε c7 b ε' c e cs J I hb hd hc hl ht ih=>exact ih (I.l_ h)
 | whole n l ε c7 b ε' e cs J I hb hd ht ih=>exact ih (I.l_ h)
theorem jA.cy {now:List (Int×List Nat)}{l:List Int}{ε ε':aF}{e:Int}{cs:List dn}(I:jA now l ε e cs ε'): Am.cy ε'≤Am.cy ε:=by
 induction I with
 | nil ε=>exact aD _
 | err n l ε e b ε' I he=>exact I.cy
 | part n l ε c7 b ε' c e cs J I hb hd hc hl ht ih=>exact cn ih I.cy
 | whole n l ε c7 b ε' e cs J I hb hd ht ih=>exact cn ih I.cy
theorem Mn {P:Program}{E:List (Nat×V)}{h:H}{a b:Nat}{v w:V}(I:look E a=some v)(J:look E b=some w): jN P E h [.tmp a,.tmp b]=some (.bh [v,w]):=by simp only [jN,mapO,resE,I,J]
section
variable {told:cN} {h:H} {S:List aq} {X Y:aq} {r k q p bM a g bz:Nat} {op v x u wh di:V} {l b c7 data:List Nat} {now:List (Int×List Nat)} {bK:Bool} {ε:aF}
theorem xZ (I:W told){id:Nat}(s:Sat h S): Call ⟨Tryz.prog,told⟩ 62 [.map id] h fun v h'=>∃b,v=.fn (.func 120) [] [.ptr b 0]∧Sat h' (pt b (.cells 1 [.map id] false)::S):=by
 refine Call.of_wp (I.free _ rfl) Tryz.func62 rfl rfl (zg rfl ?_)
 refine az.cG s rfl rfl rfl (fO rfl rfl) (fun J h s => ?_)
 exact zk 4 rfl (zo rfl (Hh rfl rfl) (zk 2 rfl (WP.ret ⟨aa,_,rfl,_,rfl,s⟩)))
theorem Kb (I:W told)(s:Sat h (fK g a now bK::S))(hm:now.length≤1048576)(hk:∀n∈now.map (·.1),(Lit.int .i64 n).wf=true):
  Call ⟨Tryz.prog,told⟩ 112 [.ptr g 0] h fun v h'=>Sat h' (.arr 1 v (gd (ei now))::fK g a now bK::S):=by
 obtain ⟨nv,s⟩:=dA.1 s
 obtain ⟨J,rfl⟩:=Dn s (j:=1) rfl
 refine Call.of_wp (I.free _ rfl) Tryz.func112 rfl rfl (zK 8 rfl (zf rfl (n_ _ _) (zl rfl (s.ld (k:=0) rfl me rfl) (zc rfl (xZ I s) ?_))))
 rintro v h ⟨b,rfl,s⟩
 refine zc rfl (vu I (s.ae [0,1]) (by decide) hm hk) ?_
 intro kv h s
 exact zk 2 rfl (WP.ret ⟨aa,_,rfl,(dA.2 ⟨.map J,(s.ae [3,2,0]).del 3⟩).ae [1]⟩)
noncomputable def Xf : Code:=eD [1,1,0,1,0,0] ((Tryz.f58.body).getD .skip)
theorem DQ (hT:W told){ks:List Int}{kv:V}(Xg:ks.length≤65536)(rM:∀n∈ks,(lookL n now).isSome=true)(tY:∀e∈now,e.2.length=512): ∀(j i:Nat) (acc:List dn) (av:V) (cs:List V) (ε:aF) (h:H) (E:List (Nat×V)) (Q:Ex→List (Nat×V)→H→Prop),i+j=ks.length →
  iJ ε→cy ε≤268435456→acc.length≤512*i →
  Sat h (.arr 4 av cs::dr cs acc::fK g a now bK::ej a p q r op data bz::dL r p q ε.1::b7 q p ε.2.1::bx p ε.2.2::.arr 1 kv (gd ks)::S) →
  Has E [(0,.ptr g 0),(4,av),(13,kv),(14,.int .i64 ks.length),(15,.int .i64 i)] →
  (∀e c ε' E' h',jA now (ks.drop i) ε e c ε'→e≠0→look E' 2=some .bp→look E' 3=some (.int .i64 e)→Sat h' (fK g a now bK::ej a p q r op data bz::dL r p q ε'.1::b7 q p ε'.2.1::bx p ε'.2.2::S)→Q .ret E' h') →
  (∀c ε' E' h' uw cs',jA now (ks.drop i) ε 0 c ε'→acc.length+c.length≤512*ks.length→Has E' [(4,uw)]→Sat h' (.arr 4 uw cs'::dr cs' (acc++c)::fK g a now bK::ej a p q r op data bz::dL r p q ε'.1::b7 q p ε'.2.1::bx p ε'.2.2::S)→Q (.exit 0) E' h') →
  WP ⟨Tryz.prog,told⟩ 65 (.loop Xf) E h Q:=by
 intro j
 induction j with
 | zero =>
  intro i acc av cs ε h E Q hj fq hw Rz s hE hr hx
  refine WP.loop (WP.has hE (zg rfl (zh rfl (ag rfl rfl aP) (by simp <;> omega) ?_)))
  refine zk 3 rfl (WP.exit ?_)
  rw [gy (by omega)] at hx
  have s1:=s.del 7
  dsimp only [aV] at s1
  refine hx [] ε _ _ av cs (.nil ε) (by simp; omega) ⟨rfl,aa⟩ ?_
  rw [fD]
  exact s1
 | succ j ih =>
  intro i acc av cs ε h E Q hj fq hw Rz s hE hr hx
  have hn:ks[i]?=some (ks[i]'(by omega)):=aN _
  have xK:ks[i]'(by omega)∈ks:=pR _
  have pI:ks.drop i=ks[i]'(by omega)::ks.drop (i+1):=r9 (by omega)
  generalize (ks[i]'(by omega))=n at hn xK pI
  have hc:(gd ks)[i]?=some (.int .i64 n):=by simp [gd,hn]
  obtain ⟨b,hb⟩:=Option.isSome_iff_exists.1 (rM n xK)
  have CE:=tY _ (ki hb)
  simp only at CE
  rw [pI] at hr hx
  obtain ⟨id,off,e1,e2⟩:=gR (P:=Tryz.prog) s (k:=7) rfl hc bL kf
  refine WP.loop (WP.has hE (zg rfl (zt rfl (ag rfl rfl aP) (by simp <;> omega) ?_)))
  refine zk 5 rfl (WP.block (zg rfl (zo rfl (cx (r:=.ptr id off) rfl rfl e1) (zl rfl (e2 _ dY) ?_))))
  obtain ⟨nv,s⟩:=dA.1 (s.ae [2])
  dsimp only [bringA,getA,aV] at s
  refine zk 6 rfl (zf rfl (mM _ _) (zl rfl (s.ld (k:=0) rfl va rfl) (zm rfl (zc rfl (xW (n:=n) hT (s.ae [4,4,4,4]) fq.ok fq.pins (cn qO hw)) ?_))))
  rintro v h ⟨e,w,ε',J,(⟨he,rfl,s⟩ | ⟨rfl,u,rfl,s⟩)⟩
  ·dsimp only [bringA,getA,aV] at s
   refine zk 10 rfl (zt rfl (ag rfl rfl aJ) (by simp; exact he) ?_)
   refine zk 8 rfl (WP.ret (hr e [] ε' _ _ (.err n _ ε e w ε' J he) he rfl rfl ?_))
   have s:=dA.2 ⟨nv,s.ae [4,4]⟩
   dsimp only [bringA,getA,aV] at s
   exact ((s.del 7).del 6).del 5
  ·dsimp only [bringA,getA,aV] at s
   have rN:=J.l_ fq
   have m8:=cn J.cy hw
   have hlen:=J.len fq
   refine zk 10 rfl (zh rfl (ag rfl rfl aJ) (rfl) ?_)
   have s:=s.gF
   have s:=s.ae [5,5,1,1,1,1,1,1,1,0]
   dsimp only [bringA,getA,aV] at s
   rcases mP (n:=n) (fun _ _=>aS.cu _ _) (s.ae [1]) oH bO n4 with ⟨g1,g2,_⟩ | ⟨nw,b',g1,_,g2,s2⟩
   ·rw [hb] at g1; cases g1
   rw [hb] at g1
   have:=bI g1
   subst this
   refine zk 7 rfl (zf rfl (n_ _ _) (zl rfl (s.ld (k:=0) rfl me rfl) (zm rfl (zo rfl (iZ rfl rfl g2) ?_))))
   obtain ⟨dv,s⟩:=cQ.1 (s2.ae [3])
   dsimp only [bringA,getA,aV] at s
   have s:=s.ae [4]
   dsimp only [bringA,getA,aV] at s
   refine zk 6 rfl (zf rfl (mM _ _) (zl rfl (s.ld (k:=0) rfl va rfl) (zn rfl (zf rfl (qd _ _) (zl rfl (s.ld (k:=1) rfl wF rfl) (zm rfl (zc rfl (Rx (n:=n) hT (s.ae [5])) ?_)))))))
   rintro v h ⟨rfl,s⟩
   dsimp only [bringA,getA,aV] at s
   refine zk 10 rfl ?_
   cases hd:(lookL n ε'.1.b_).isSome with
   | true =>
    refine zK 6 rfl (zc rfl (Ka hT (u:=u) (v:=nw) (pg:=n) (s.ae [11,4]) (dc _ _) (dc _ _) hlen CE) ?_)
    rintro rv h ⟨RB,c,hc,jf,s⟩
    dsimp only [bringA,getA,aV] at s
    obtain ⟨i1,jb,gi,tc⟩:=xY
    have Vf:cs.length=acc.length*4:=by
     obtain ⟨a,b,q1,q2,q3⟩:=s.at (k:=12) rfl
     exact od q3
    have Yv:RB.length=c.length*4:=by
     obtain ⟨a,b,q1,q2,q3⟩:=s.at (k:=1) rfl
     exact od q3
    obtain ⟨uw,h2,td,s2⟩:=fP (s.ae [11,0]) jc jb rF gi (by omega) rfl (by decide) (by omega)
    dsimp only [bringA,getA,aV] at s2
    refine az.any rfl rfl rfl (OpR.of (R:=fun v h'=>v=uw∧h'=h2) (kj rfl rfl td) ⟨rfl,rfl⟩) ?_
    rintro v' h' ⟨rfl,rfl⟩
    refine za rfl (zv (zr rfl (zb rfl (by exact bk (aA (by omega) (by omega))) ?_)))
    refine zm rfl (zv ?_)
    have s3:Sat _ (dr cs acc::dr RB c::_):=s2.ae [12,2]
    have s4:=s3.two (C:=dr (cs++RB) (acc++c)) (aS.oK _ _) (aS.oK _ _) fun a b q1 q2=>xS q1 q2
    dsimp only [bringA,getA,aV] at s4
    have s5:=cQ.2 ⟨dv,s4.ae [7,7]⟩
    dsimp only [bringA,getA,aV] at s5
    have s6:=dA.2 ⟨nv,s5.ae [7,7]⟩
    dsimp only [bringA,getA,aV] at s6
    have s7:=(((s6.ae [3,2,0,0,3,3,3,3]).del 10).del 9).del 8
    dsimp only [bringA,getA,aV] at s7
    refine ih (i+1) (acc++c) _ _ ε' _ _ Q (by omega) rN m8 (by simp; omega) s7 ⟨rfl,rfl,rfl,rfl,rfl,aa⟩ (fun e c' I E' h' ht he l2 l3 s' => ?_) (fun c' I E' h' Mo uH ht hl k8 s' => ?_)
    ·exact hr e _ I E' h' (.part n _ ε w b ε' c e c' I J hb hd hc jf ht) he l2 l3 s'
    ·refine hx (c++c') I E' h' Mo uH (.part n _ ε w b ε' c 0 c' I J hb hd hc jf ht) (by simp at hl ⊢; omega) k8 ?_
     rw [←eu]
     exact s'
   | false =>
    refine zK 5 rfl (zc rfl (pH hT (s.ae [4]) (dc _ _) (by omega)) ?_)
    intro cw h s
    dsimp only [bringA,getA,aV] at s
    obtain ⟨wid,_,Mp,_,rfl,_⟩:=s.eF (by omega)
    have s:=s.gF
    refine zo rfl (cW rfl (by rw [Hy]; rfl)) ?_
    obtain ⟨rv,h1,Af,s1⟩:=j7 (P:=Tryz.prog) (k:=4) (x:=.agg [.int .i64 n,.int .i64 0,.bool true,.sl wid 0 b.length Mp]) s jc rF wK rfl (by decide) (by decide) rfl rfl
    dsimp only [V.cells] at s1
    refine az.any rfl rfl rfl (OpR.of (R:=fun v h'=>v=rv∧h'=h1) (kn rfl Af) ⟨rfl,rfl⟩) ?_
    rintro v' h' ⟨rfl,rfl⟩
    obtain ⟨i1,jb,gi,tc⟩:=xY
    have Vf:cs.length=acc.length*4:=by
     obtain ⟨a,b,q1,q2,q3⟩:=s1.at (k:=11) rfl
     exact od q3
    obtain ⟨uw,h2,td,s2⟩:=fP (s1.ae [10,0]) jc jb rF gi (by omega) rfl (by decide) (by simp only [aO,bB]; omega)
    dsimp only [bringA,getA,aV] at s2
    refine az.any rfl rfl rfl (OpR.of (R:=fun v h'=>v=uw∧h'=h2) (kj rfl rfl td) ⟨rfl,rfl⟩) ?_
    rintro v' h' ⟨rfl,rfl⟩
    refine za rfl (zv (zr rfl (zb rfl (by exact bk (aA (by omega) (by omega))) ?_)))
    refine zm rfl (zv ?_)
    have s3:Sat _ (dr cs acc::.cu (.sl wid 0 b.length Mp) b::_):=s2.ae [11,2]
    have s4:=s3.two (C:=dr (cs++[.int .i64 n,.int .i64 0,.bool true,.sl wid 0 b.length Mp]) (acc++[⟨n,0,true,b⟩])) (aS.oK _ _) (aS.cu _ _) fun a b q1 q2=>xS q1 ⟨⟨⟨rfl,rfl,rfl⟩,q2⟩,aa⟩
    have s5:=cQ.2 ⟨dv,s4.ae [6,6]⟩
    have s6:=dA.2 ⟨nv,s5.ae [6,6]⟩
    have s7:=(((s6.ae [3,2,0,0,2,2,2,2]).del 10).del 9).del 8
    dsimp only [bringA,getA,aV] at s7
    refine ih (i+1) (acc++[⟨n,0,true,b⟩]) _ _ ε' _ _ Q (by omega) rN m8 (by simp; omega) s7 ⟨rfl,rfl,rfl,rfl,rfl,aa⟩ (fun e c' I E' h' ht he l2 l3 s' => ?_) (fun c' I E' h' Mo uH ht hl k8 s' => ?_)
    ·exact hr e _ I E' h' (.whole n _ ε w b ε' e c' I J hb hd ht) he l2 l3 s'
    ·refine hx (⟨n,0,true,b⟩::c') I E' h' Mo uH (.whole n _ ε w b ε' 0 c' I J hb hd ht) (by simp at hl ⊢; omega) k8 ?_
     rw [eu] at s'
     exact s'
theorem HX (hT:W told)(s:Sat h (fK g a now bK::ej a p q r op data bz::dL r p q ε.1::b7 q p ε.2.1::bx p ε.2.2::S))(fq:iJ ε)(hw:cy ε≤268435456)(I:∀e∈now,e.2.length=512)(hm:now.length≤65536)(hk:∀n∈now.map (·.1),(Lit.int .i64 n).wf=true):
  Call ⟨Tryz.prog,told⟩ 58 [.ptr g 0] h fun v h'=>∃e c ε',jA now (ei now) ε e c ε' ∧
   ((e≠0∧v=.bh [.bp,.int .i64 e]∧Sat h' (fK g a now bK::ej a p q r op data bz::dL r p q ε'.1::b7 q p ε'.2.1::bx p ε'.2.2::S)) ∨
    (e=0∧c.length≤33554432∧∃av cs,v=.bh [av,.int .i64 0]∧Sat h' (.arr 4 av cs::dr cs c::fK g a now bK::ej a p q r op data bz::dL r p q ε'.1::b7 q p ε'.2.1::bx p ε'.2.2::S))):=by
 have hl:(ei now).length=now.length:=by rw [ei,(fA _).length_eq,ew]
 refine Call.of_wp (hT.free _ rfl) Tryz.func58 rfl rfl (zK 13 rfl (zc rfl (Kb hT s (by omega) hk) ?_))
 intro kv h s
 refine zo rfl (aM rfl rfl rfl (s.dF (n:=(ei now).length) (j:=0) rfl (by simp [gd]) (by decide) bL)) ?_
 refine zk 2 rfl (WP.block ?_)
 have s1:=(((s.gp aa).l7 (k:=4)).hU fun a b q=>q).ae [0,0,1,1,1,1,1,0]
 refine DQ hT (ks:=ei now) (now:=now) (by omega) (fun n hn => ?_) I (ei now).length 0 [] .bp [] ε _ _ _ (by omega) fq hw (by simp) s1 ⟨rfl,rfl,rfl,rfl,rfl,aa⟩ (fun e c ε' E' h' J he l2 l3 s' => ?_) (fun c ε' E' h' av cs J jf k8 s' => ?_)
 ·have:n∈now.map (·.1):=(fA _).mem_iff.1 hn
  cases hq:lookL n now with
  | some _=>rfl
  | none=>exact absurd this (nj.1 hq)
 ·rw [eS] at J
  exact ⟨aa,_,Mn l2 l3,e,c,ε',J,.inl ⟨he,rfl,s'⟩⟩
 ·rw [eS] at J
  have s:=s'
  exact WP.has k8 (zK 6 rfl (WP.ret ⟨aa,_,rfl,0,c,ε',J,.inr ⟨rfl,by simp at jf; omega,_,_,rfl,s⟩⟩))
end
theorem vz {b:List Nat}{n:Nat}(I:bU b=true): (cZ b n).length=512:=by
 have J:=tS (n:=n) (gQ I)
 rw [cZ,cH (by rw [dG]; omega),J]
def gX (π:Pl)(n:Int)(b:List Nat)(aQ:Nat): Int×Pl :=
 (if (jI π n b aQ).1=0 then (unpinF (jI π n b aQ).2 n).1 else (jI π n b aQ).1,(unpinF (jI π n b aQ).2 n).2)
def x_ (π:Pl)(n:Int)(i:Nat)(f:Fm)(b:List Nat)(aQ:Nat): Pl :=
 { π with ah:=π.ah.set i { f with b:=cZ b aQ,changed:=true,pins:=0 },b_:=dg n (kz π n aQ,true) π.b_ }
theorem Ai {π:Pl}{n:Int}{i:Nat}{f:Fm}{b:List Nat}{aQ:Nat}(J:lookL n π.br=some (i:Int))(I:π.ah[i]?=some f)(hp:f.pins=1)(hg:bU b=true): gX π n b aQ=(0,x_ π n i f b aQ):=by
 have h1:=(qM J I hp).1
 have hi:=(List.getElem?_eq_some_iff.1 I).1
 have e1:jI π n b aQ=(0,{ π with ah:=π.ah.set i { f with b:=cZ b aQ,changed:=true },b_:=dg n (kz π n aQ,true) π.b_ }):=by
  simp only [jI,h1,I,hg,Bool.true_eq_false,bF]
 have e2:=(qM (π:={ π with ah:=π.ah.set i { f with b:=cZ b aQ,changed:=true },b_:=dg n (kz π n aQ,true) π.b_ }) (n:=n) (f:={ f with b:=cZ b aQ,changed:=true }) J (gH hi) hp).2
 simp only [gX,e1,e2,bC,we]
 rfl
theorem Kc {π:Pl}{n:Int}{i:Nat}{f:Fm}{b:List Nat}{aQ:Nat}(J:lookL n π.br=some (i:Int))(I:π.ah[i]?=some f)(hp:f.pins=1)(hg:bU b=false): gX π n b aQ=(4,{ π with ah:=π.ah.set i { f with pins:=0 } }):=by
 have h1:=(qM J I hp).1
 have e1:jI π n b aQ=(4,π):=by simp only [jI,h1,I,hg,bC]
 have e2:=(qM J I hp).2
 simp only [gX,e1,e2]
 rfl
theorem Pc {π:Pl}{n:Int}{b:List Nat}{aQ:Nat}(h:π.Ok): (jI π n b aQ).2.Ok:=by
 unfold jI
 split
 ·exact h
 ·split
  ·exact h
  ·rename_i f J
   have hm:=aY J
   split
   ·exact h
   ·rename_i I
    have I:bU b=true:=by simpa using I
    exact h.set h.br (by simp only [vz I]; omega) (h.pins f hm)
theorem eO.put {ε ε':aF}{n:Int}{b0 b:List Nat}{aQ:Nat}(hr:eO ε n 0 b0 ε')(h:iJ ε): iJ ((gX ε'.1 n b aQ).2,ε'.2)∧Am.cy ((gX ε'.1 n b aQ).2,ε'.2)≤Am.cy ε+1∧(bU b=true→(gX ε'.1 n b aQ).1=0):=by
 have I:=hr.ok h.ok h.pins
 have J:=(hr.full h.ok.dk h.full).1
 obtain ⟨i,f,h1,h2,h3,h4,h5⟩:=hr.at h.pins
 have hm:=aY h2
 have vA:=hr.cy
 cases hg:bU b with
 | true =>
  rw [Ai h1 h2 h3 hg]
  refine ⟨⟨⟨I.pl.set I.pl.br (by simp only [vz hg]; omega) (by simp),I.lg,I.dk⟩,h5 _ rfl,J.set h2 rfl fun _=>vz hg⟩,?_,fun _=>rfl⟩
  have h6:=kD (g:={ f with b:=cZ b aQ,changed:=true,pins:=0 }) h2
  simp only [Bool.toNat_true] at h6
  simp only [Am.cy,x_] at vA ⊢
  omega
 | false =>
  rw [Kc h1 h2 h3 hg]
  refine ⟨⟨⟨I.pl.set I.pl.br (I.pl.len f hm) (by simp),I.lg,I.dk⟩,h5 _ rfl,J.set h2 rfl fun hl=>hl⟩,?_,fun h=>by cases h⟩
  have h6:=kD (g:={ f with pins:=0 }) h2
  simp only [Am.cy] at vA h6 ⊢
  omega
inductive oM (now:List (Int×List Nat))(aQ:Nat): List Int→aF→Int→aF→Prop where
 | nil (ε:aF):oM now aQ [] ε 0 ε
 | gG (n:Int) (l:List Int) (ε:aF) (e:Int) (b:List Nat) (ε':aF) (hr:eO ε n e b ε') (he:e≠0):oM now aQ (n::l) ε e ε'
 | bad (n:Int) (l:List Int) (ε:aF) (b0 b:List Nat) (ε':aF) (hr:eO ε n 0 b0 ε') (hb:lookL n now=some b) (he:(gX ε'.1 n b aQ).1≠0):oM now aQ (n::l) ε (gX ε'.1 n b aQ).1 ((gX ε'.1 n b aQ).2,ε'.2)
 | put (n:Int) (l:List Int) (ε:aF) (b0 b:List Nat) (ε':aF) (e:Int) (jg:aF) (hr:eO ε n 0 b0 ε') (hb:lookL n now=some b) (he:(gX ε'.1 n b aQ).1=0) (ht:oM now aQ l ((gX ε'.1 n b aQ).2,ε'.2) e jg):oM now aQ (n::l) ε e jg
theorem oM.l_ {now:List (Int×List Nat)}{aQ:Nat}{l:List Int}{ε ε':aF}{e:Int}(I:oM now aQ l ε e ε')(h:iJ ε): iJ ε':=by
 induction I with
 | nil ε=>exact h
 | gG n l ε e b ε' I he=>exact ⟨I.ok h.ok h.pins,I.Gh he h.pins,(I.full h.ok.dk h.full).1⟩
 | bad n l ε b0 b ε' I hb he=>exact (I.put h).1
 | put n l ε b0 b ε' e J I hb he ht ih=>exact ih (I.put h).1
theorem oM.cy {now:List (Int×List Nat)}{aQ:Nat}{l:List Int}{ε ε':aF}{e:Int}(I:oM now aQ l ε e ε')(h:iJ ε): Am.cy ε'≤Am.cy ε+l.length:=by
 induction I with
 | nil ε=>exact aD _
 | gG n l ε e b ε' I he=>have:=I.cy; omega
 | bad n l ε b0 b ε' I hb he=>have:=(I.put (b:=b) (aQ:=aQ) h).2.1; simp only [aO]; omega
 | put n l ε b0 b ε' e J I hb he ht ih=>have h1:=ih (I.put h).1; have:=(I.put (b:=b) (aQ:=aQ) h).2.1; simp only [aO]; omega
theorem Ta {h:H}{id c:Nat}{es:fJ}{n:Int}{u:V}{t kt et:TypeId}{k:IntKind}{z:V}(J:T.get h.tr id=some (.map (es.map sX) c))(he:lookE n es=some u)(hu:Tryz.prog.underlying t=some (.map kt et))(hk:Tryz.prog.underlying kt=some (.int k))(hz:zeroT Tryz.prog et=some z):
  dS Tryz.prog h t (.map id) (.int .i64 n) false=some u:=by
 have hi:=oE (n:=n) es 0
 simp only [dS,lookupV,hu,hk,hz,J,keyBeq,cY,af,sY]
 cases I:idxE n es 0 with
 | none=>rw [I] at hi; rw [he] at hi; cases hi
 | some q=>rw [I] at hi; rw [he] at hi; obtain ⟨j,w⟩:=q; have:=bI hi; simp only at this; subst this; rfl
section
variable {told:cN} {h:H} {S:List aq} {X Y:aq} {r k q p bM a g bz:Nat} {op v x u wh di:V} {l b c7 data:List Nat} {now:List (Int×List Nat)} {bK:Bool} {ε:aF}
noncomputable def Xh : Code:=eD [1,1,1,1,1,1,1,1,0,1,0,0] ((Tryz.f26.body).getD .skip)
theorem Ke (hT:W told){ks:List Int}{kv dv:V}{aQ tf c:Nat}{es:fJ}(Xg:ks.length≤65536)(rM:∀n∈ks,(lookL n now).isSome=true)(tY:∀e∈now,e.2.length=512): ∀(j i:Nat) (ε:aF) (h:H) (E:List (Nat×V)) (Q:Ex→List (Nat×V)→H→Prop),i+j=ks.length →
  iJ ε→cy ε+j≤268435456 →
  Sat h (pt g (.cells 3 [.ptr a 0,.map tf,.bool bK] false)::i_ tf es c::fQ (fun v b=>.cu v b) es now::pt a (.cells 6 (Gg a p q r op dv bz) false)::dL r p q ε.1::b7 q p ε.2.1::bx p ε.2.2::.arr 1 kv (gd ks)::S) →
  Has E [(0,.ptr g 0),(6,.ptr a 0),(8,.int .u64 (aQ:Int)),(73,kv),(74,.int .i64 ks.length),(75,.int .i64 i)] →
  (∀e ε' E' h',oM now aQ (ks.drop i) ε e ε'→e≠0→look E' 4=some (.int .u64 0)→look E' 5=some (.int .i64 e)→Sat h' (pt g (.cells 3 [.ptr a 0,.map tf,.bool bK] false)::i_ tf es c::fQ (fun v b=>.cu v b) es now::pt a (.cells 6 (Gg a p q r op dv bz) false)::dL r p q ε'.1::b7 q p ε'.2.1::bx p ε'.2.2::S)→Q .ret E' h') →
  (∀ε' E' h',oM now aQ (ks.drop i) ε 0 ε'→Has E' [(8,.int .u64 (aQ:Int))]→Sat h' (pt g (.cells 3 [.ptr a 0,.map tf,.bool bK] false)::i_ tf es c::fQ (fun v b=>.cu v b) es now::pt a (.cells 6 (Gg a p q r op dv bz) false)::dL r p q ε'.1::b7 q p ε'.2.1::bx p ε'.2.2::S)→Q (.exit 1) E' h') →
  WP ⟨Tryz.prog,told⟩ 118 (.loop Xh) E h Q:=by
 intro j
 induction j with
 | zero =>
  intro i ε h E Q hj I hw s hE hr hx
  refine WP.loop (WP.has hE (zg rfl (zh rfl (ag rfl rfl aP) (by simp <;> omega) ?_)))
  refine zk 3 rfl (WP.exit ?_)
  rw [gy (by omega)] at hx
  exact hx ε _ _ (.nil ε) ⟨rfl,aa⟩ (s.del 7)
 | succ j ih =>
  intro i ε h E Q hj I hw s hE hr hx
  have hn:ks[i]?=some (ks[i]'(by omega)):=aN _
  have xK:ks[i]'(by omega)∈ks:=pR _
  have pI:ks.drop i=ks[i]'(by omega)::ks.drop (i+1):=r9 (by omega)
  generalize (ks[i]'(by omega))=n at hn xK pI
  have hc:(gd ks)[i]?=some (.int .i64 n):=by simp [gd,hn]
  obtain ⟨b,hb⟩:=Option.isSome_iff_exists.1 (rM n xK)
  have CE:=tY _ (ki hb)
  simp only at CE
  rw [pI] at hr hx
  obtain ⟨id,off,e1,e2⟩:=gR (P:=Tryz.prog) s (k:=7) rfl hc bL kf
  refine WP.loop (WP.has hE (zg rfl (zt rfl (ag rfl rfl aP) (by simp <;> omega) ?_)))
  refine zk 5 rfl (WP.block (zg rfl (zo rfl (cx (r:=.ptr id off) rfl rfl e1) (zl rfl (e2 _ dY) (zk 7 rfl (zf rfl (qd _ _) (zl rfl (s.ld (k:=3) rfl wF rfl) (zm rfl (zc rfl (J5 (n:=n) hT (s.ae [4,4,4]) I.ok.pl I.pins I.ok.lg I.ok.dk (by have:=qO (ε:=ε); omega)) ?_)))))))))
  rintro v h ⟨e,b0,ε',DR,(⟨he,rfl,s⟩ | ⟨rfl,u0,rfl,s⟩)⟩
  ·dsimp only [bringA,getA,aV] at s
   refine zk 9 rfl (zt rfl (ag rfl rfl aJ) (by simp; exact he) ?_)
   exact zk 8 rfl (WP.ret (hr e ε' _ _ (.gG n _ ε e b0 ε' DR he) he rfl rfl ((s.ae [3,3,3,3,0,0,0]).del 7)))
  ·dsimp only [bringA,getA,aV] at s
   have s:=s.drop
   have HY:=DR.put (b:=b) (aQ:=aQ) I
   have vp:=DR.ok I.ok I.pins
   refine zk 9 rfl (zh rfl (ag rfl rfl aJ) (rfl) (zk 4 rfl ?_))
   have s1:Sat h (fQ (fun v b=>.cu v b) es now::_):=s.ae [5]
   obtain ⟨_,_,_,_,q3⟩:=s1.at (k:=0) rfl
   rcases pG (n:=n) q3 with ⟨_,q4⟩ | ⟨u,b',g1,g2,_⟩
   ·rw [hb] at q4; cases q4
   rw [hb] at g2
   have:=bI g2
   subst this
   have s2:=(s1.dup (aS.LV (fun _ _=>aS.cu _ _) _ _)).hU (B:=.cu u b) fun a' b' h'=>by
    rcases pG (n:=n) h' with ⟨_,q4⟩ | ⟨u',Tz,T3,T4,Rk⟩
    ·rw [hb] at q4; cases q4
    ·rw [g1] at T3; rw [hb] at T4
     have h5:=bI T3
     have h6:=bI T4
     subst h5; subst h6
     exact Rk
   dsimp only [bringA,getA,aV] at s2
   obtain ⟨uid,Yw,Yx,rfl⟩:=gP (s2.aH (k:=0) rfl (dc _ _)) (by omega)
   have s:=s2.ae [2,0]
   dsimp only [bringA,getA,aV] at s
   have s0:=s
   refine WP.drawn [ak,ak,ak,ak,ak,ak,ak,ak,ak,ak,ak,ak,ak,ak] rfl (by kernel_rfl) (by kernel_rfl) ?_
   refine zM rfl (zN rfl (zF rfl (qd _ _) (zL rfl (s.ld (k:=7) rfl wF rfl) (zM rfl (zM rfl (zN rfl (zF rfl (n_ _ _) (zL rfl (s.ld (k:=5) rfl me rfl) (zM rfl (zO rfl (iZ rfl rfl (Ta (s.row (k:=6) rfl) g1 oH bO n4)) (zM rfl (aC.any rfl rfl rfl rfl (OpR.call rfl rfl rfl rfl (O7 (n:=n) (aQ:=aQ) (b:=b) hT s (dc _ _) vp.pl (by omega))) ?_))))))))))))
   rintro v h ⟨rfl,s⟩
   refine zA rfl ?_
   refine aC.nil ⟨⟨aa,aa,aa,aa,aa,aa,aa,aa,aa,aa,aa,aa,aa,aa,aa⟩,?_⟩
   refine zK 5 rfl (zf rfl (qd _ _) (zl rfl (s.ld (k:=7) rfl wF rfl) (zm rfl (zc rfl (DM (n:=n) hT s (Pc vp.pl)) ?_))))
   rintro v h ⟨rfl,s⟩
   refine zk 5 rfl ?_
   by_cases hg:(jI ε'.1 n b aQ).1=0
   ·have Gm:(gX ε'.1 n b aQ).1=(unpinF (jI ε'.1 n b aQ).2 n).1:=by simp only [gX,hg,bC]
    have NP:(gX ε'.1 n b aQ).2=(unpinF (jI ε'.1 n b aQ).2 n).2:=rfl
    rw [←Gm,←NP] at *
    refine zt rfl (ag rfl rfl iz) (by simp; exact hg) ?_
    refine zk 9 rfl ?_
    by_cases he:(gX ε'.1 n b aQ).1=0
    ·skip
     refine zh rfl (ag rfl rfl aJ) (by simp; exact he) ?_
     refine zv (zj rfl (WP.skip (zr rfl (zb rfl (by exact bk (aA (by omega) (by omega))) ?_))))
     refine zm rfl (zv ?_)
     have s9:=(s.ae [5,5,2,4,0,1,1,1]).del 8
     refine ih (i+1) ((gX ε'.1 n b aQ).2,ε'.2) _ _ Q (by omega) HY.1 (by have h9:cy ((gX ε'.1 n b aQ).2,ε'.2)≤cy ε+1:=HY.2.1; omega) s9 ⟨rfl,rfl,rfl,rfl,rfl,rfl,aa⟩ (fun e J E' h' ht yM l4 l5 s' => ?_) (fun J E' h' ht k8 s' => ?_)
     ·exact hr e J E' h' (.put n _ ε b0 b ε' e J DR hb he ht) yM l4 l5 s'
     ·exact hx J E' h' (.put n _ ε b0 b ε' 0 J DR hb he ht) k8 s'
    ·skip
     refine zt rfl (ag rfl rfl aJ) (by simp; exact he) ?_
     exact zk 8 rfl (WP.ret (hr _ _ _ _ (.bad n _ ε b0 b ε' DR hb he) he rfl rfl (((s.ae [5,5,2,4,0,1,1,1]).del 8).del 7)))
   ·have Gm:(gX ε'.1 n b aQ).1=(jI ε'.1 n b aQ).1:=by simp only [gX,hg,bF]
    have NP:(gX ε'.1 n b aQ).2=(unpinF (jI ε'.1 n b aQ).2 n).2:=rfl
    rw [←Gm] at hg
    refine zh rfl (ag rfl rfl iz) (by simp; rw [←Gm]; exact hg) ?_
    refine zk 6 rfl (zt rfl (ag rfl rfl aJ) (by simp; rw [←Gm]; exact hg) ?_)
    refine zk 8 rfl (WP.ret (hr _ _ _ _ (.bad n _ ε b0 b ε' DR hb hg) hg rfl (by rw [Gm]; rfl) ?_))
    exact ((s.ae [5,5,2,4,0,1,1,1]).del 8).del 7
end
end Go.Proofs.YtefepnnfphdkpaaGreat.Am
