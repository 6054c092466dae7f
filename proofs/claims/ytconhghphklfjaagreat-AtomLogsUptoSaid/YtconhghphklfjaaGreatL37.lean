/- After a crash the log has the records of the groups that are there and no others, with their numbers and data; the conditions are those of the given statement, for arguments that a machine can hold. Part 37 of 54. -/
import Derived.Test.YtconhghphklfjaaGreatL36
namespace Go.Proofs.YtconhghphklfjaaGreat.Am
open Go
inductive r6 (aO:Int)(c8 now:List Nat): Nat→List bV→Prop where
 | done (i:Nat) (h:now.length≤i):r6 aO c8 now i []
 | skip (i:Nat) (l:List bV) (h:i<now.length) (he:c8[i]?=now[i]?) (hr:r6 aO c8 now (i+1) l):r6 aO c8 now i l
 | take (i e:Nat) (l:List bV) (h1:i<e) (h2:e≤now.length) (hr:r6 aO c8 now e l):r6 aO c8 now i (⟨aO,i,false,(now.take e).drop i⟩::l)
def Km (aO:Int)(c8 now:List Nat)(c:List bV): Prop:=∃l,r6 aO c8 now 12 l∧c=if l=[] then [⟨aO,0,false,[]⟩] else l
theorem oa : ∃i,Tryz.prog.info? 54=some i∧i.size=4∧i.bytes=48 :=
 ⟨_,(show Tryz.prog.info? 54=some ((Tryz.prog.info? 54).getD default) by kernel_rfl),by kernel_rfl,by kernel_rfl⟩
section
variable {told:Nat→Option (List V→H→Option (V×H))} {h:H} {S:List ah} {X Y:ah} {r k q p bw a g aK:Nat} {op v x u wh di:V} {l b c8 now:List Nat}
noncomputable def TW : Code:=cn [1,1,0,1,0,0] ((Tryz.f87.body).getD .skip)
noncomputable def TX : Code:=cn [1,1,0,1,0,0,1,0,1,1,0,1,0,0] ((Tryz.f87.body).getD .skip)
theorem IU {pg:Int}{I:Nat}{t7:V}{k1 k2:Nat}(s:Sat h S)(tC:getA S k1=some X)(hX:bU X (bZ u c8))(F8:getA S k2=some Y)(hY:bU Y (bZ v now))(vH:c8.length=512)(iq:now.length=512): ∀(j i e:Nat) (E:List (Nat×V)) (Q:Ex→List (Nat×V)→H→Prop),i+j=512→I<e→e≤i →
  Has E [(0,.int .i64 pg),(1,u),(2,v),(7,t7),(8,.int .i64 (I:Int)),(9,.int .i64 (e:Int)),(10,.int .i64 (i:Int))] →
  (∀e' E',I<e'→e'≤512→Has E' [(0,.int .i64 pg),(1,u),(2,v),(7,t7),(8,.int .i64 (I:Int)),(9,.int .i64 (e':Int))]→Q (.exit 2) E' h) →
  WP ⟨Tryz.prog,told⟩ 71 (.loop TX) E h Q:=by
 have hv:=s.ax F8 hY
 have hu:=s.ax tC hX
 have hlen:lenV Tryz.prog h 32 v=some (.int .i64 now.length):=aG Tryz.underlying32 hv
 intro j
 induction j with
 | zero =>
  intro i e E Q hi U h2 hE J
  refine WP.loop (WP.has hE (zw (zg rfl (zm rfl (zm rfl (zo rfl (aL rfl rfl rfl hlen) (ae.aE rfl rfl rfl (af rfl rfl aX) (by simp <;> omega) ?_)))))))
  refine zm rfl (zx rfl (zx rfl (zx rfl (zx rfl (zp rfl (zv (zj rfl (WP.exit ?_))))))))
  exact J e _ U (by omega) ⟨rfl,rfl,rfl,rfl,rfl,rfl,trivial⟩
 | succ j ih =>
  intro i e E Q hi U h2 hE J
  have hb:now[i]?=some (now[i]'(by omega)):=List.getElem?_eq_getElem _
  generalize (now[i]'(by omega))=b at hb
  have hc:c8[i]?=some (c8[i]'(by omega)):=List.getElem?_eq_getElem _
  generalize (c8[i]'(by omega))=c at hc
  obtain ⟨id,off,e1,e2⟩:=eS hv hb
  obtain ⟨tK,off',e3,e4⟩:=eS hu hc
  refine WP.loop (WP.has hE (zw (zg rfl (zm rfl (zm rfl (zo rfl (aL rfl rfl rfl hlen) (ae.aR rfl rfl rfl (af rfl rfl aX) (by simp <;> omega) ?_)))))))
  refine zm rfl (zm rfl (zm rfl (zb rfl (by exact bl (aF (by omega) (by omega))) ?_)))
  by_cases hd:i<e+8
  ·skip
   refine ae.aR rfl rfl rfl (af rfl rfl aX) (by simp <;> omega) ?_
   refine zq rfl (zv (zi rfl (WP.skip (zw (WP.block (zw ?_))))))
   have s0:=s
   refine WP.drawn [none,none,none,none,none,none,none,none,none] rfl (by kernel_rfl) (by kernel_rfl) ?_
   refine zM rfl (zM rfl (zO rfl (cH (r:=.ptr tK off') rfl rfl e3) (zL rfl e4 (zM rfl (zM rfl (zO rfl (cH (r:=.ptr id off) rfl rfl e1) (zL rfl e2 ?_)))))))
   by_cases Kn:c=b
   ·skip
    refine au.aE rfl rfl rfl rfl (af rfl rfl aN) (by simp; exact_mod_cast Kn) ?_
    refine au.nil ⟨⟨trivial,trivial,trivial,trivial,trivial,trivial,trivial,trivial,trivial,trivial⟩,?_⟩
    refine zj rfl (WP.skip (zr rfl (zm rfl (zb rfl (by exact bl (aF (by omega) (by omega))) ?_))))
    refine za rfl (zv ?_)
    exact ih (i+1) e _ Q (by omega) U (by omega) ⟨rfl,rfl,rfl,rfl,rfl,rfl,rfl,trivial⟩ J
   ·skip
    refine au.aR rfl rfl rfl rfl (af rfl rfl aN) (by simp; omega) ?_
    refine au.nil ⟨⟨trivial,trivial,trivial,trivial,trivial,trivial,trivial,trivial,trivial,trivial⟩,?_⟩
    refine zi rfl (zr rfl (zm rfl (zb rfl (by exact bl (aF (by omega) (by omega))) ?_)))
    refine za rfl (zv (zr rfl (zm rfl (zb rfl (by exact bl (aF (by omega) (by omega))) ?_))))
    refine za rfl (zv ?_)
    exact ih (i+1) (i+1) _ Q (by omega) (by omega) (by omega) ⟨rfl,rfl,rfl,rfl,rfl,rfl,rfl,trivial⟩ J
  ·skip
   refine ae.aE rfl rfl rfl (af rfl rfl aX) (by simp <;> omega) ?_
   refine zq rfl (zv (zj rfl (WP.exit ?_)))
   exact J e _ U (by omega) ⟨rfl,rfl,rfl,rfl,rfl,rfl,trivial⟩
theorem IV (hT:W told){pg:Int}(hX:bU X (bZ u c8))(hY:bU Y (bZ v now))(vH:c8.length=512)(iq:now.length=512): ∀(j i:Nat) (acc:List bV) (av:V) (cs:List V) (h:H) (E:List (Nat×V)) (Q:Ex→List (Nat×V)→H→Prop),512≤i+j→i≤512→acc.length≤i →
  Sat h (.arr 4 av cs::bP cs acc::X::Y::S)→(∀l,r6 pg c8 now i l→r6 pg c8 now 12 (acc++l)) →
  Has E [(0,.int .i64 pg),(1,u),(2,v),(7,av),(8,.int .i64 (i:Int))] →
  (∀U cs' l E' h',r6 pg c8 now 12 l→l.length≤512→Sat h' (.arr 4 U cs'::bP cs' l::X::Y::S)→Has E' [(0,.int .i64 pg),(7,U)]→Q (.exit 0) E' h') →
  WP ⟨Tryz.prog,told⟩ 71 (.loop TW) E h Q:=by
 intro j
 induction j with
 | zero =>
  intro i acc av cs h E Q hj hi NO s I hE hq
  have hlen:lenV Tryz.prog h 32 v=some (.int .i64 now.length):=aG Tryz.underlying32 (s.ax (k:=3) rfl hY)
  refine WP.loop (WP.has hE (zw (zg rfl (zm rfl (zm rfl (zo rfl (aL rfl rfl rfl hlen) (ae.aE rfl rfl rfl (af rfl rfl aX) (by simp <;> omega) ?_)))))))
  refine zv (zj rfl (WP.exit ?_))
  have:=I [] (.done _ (by omega))
  rw [List.append_nil] at this
  exact hq av cs acc _ _ this (by omega) s ⟨rfl,rfl,trivial⟩
 | succ j ih =>
  intro i acc av cs h E Q hj hi NO s I hE hq
  have hv:=s.ax (k:=3) rfl hY
  have hu:=s.ax (k:=2) rfl hX
  have hlen:lenV Tryz.prog h 32 v=some (.int .i64 now.length):=aG Tryz.underlying32 hv
  by_cases bB:i<512
  ·have hb:now[i]?=some (now[i]'(by omega)):=List.getElem?_eq_getElem _
   generalize (now[i]'(by omega))=b at hb
   have hc:c8[i]?=some (c8[i]'(by omega)):=List.getElem?_eq_getElem _
   generalize (c8[i]'(by omega))=c at hc
   obtain ⟨id,off,e1,e2⟩:=eS hv hb
   obtain ⟨tK,off',e3,e4⟩:=eS hu hc
   refine WP.loop (WP.has hE (zw (zg rfl (zm rfl (zm rfl (zo rfl (aL rfl rfl rfl hlen) (ae.aR rfl rfl rfl (af rfl rfl aX) (by simp <;> omega) ?_)))))))
   refine zv (zi rfl (WP.skip (WP.block (zw (zw ?_)))))
   have s0:=s
   refine WP.drawn [none,none,none,none,none,none,none,none,none] rfl (by kernel_rfl) (by kernel_rfl) ?_
   refine zM rfl (zM rfl (zO rfl (cH (r:=.ptr tK off') rfl rfl e3) (zL rfl e4 (zM rfl (zM rfl (zO rfl (cH (r:=.ptr id off) rfl rfl e1) (zL rfl e2 ?_)))))))
   by_cases Kn:c=b
   ·skip
    refine au.aR rfl rfl rfl rfl (af rfl rfl cS) (by simp; exact_mod_cast Kn) ?_
    refine au.nil ⟨⟨trivial,trivial,trivial,trivial,trivial,trivial,trivial,trivial,trivial,trivial⟩,?_⟩
    refine zi rfl (zg rfl (zm rfl (zb rfl (by exact bl (aF (by omega) (by omega))) ?_)))
    refine za rfl (zv (WP.exit ?_))
    exact ih (i+1) acc av cs h _ Q (by omega) (by omega) (by omega) s (fun l hl=>I l (.skip i l (by omega) (by rw [hb,hc,Kn]) hl)) ⟨rfl,rfl,rfl,rfl,rfl,trivial⟩ hq
   ·skip
    refine au.aE rfl rfl rfl rfl (af rfl rfl cS) (by simp; omega) ?_
    refine au.nil ⟨⟨trivial,trivial,trivial,trivial,trivial,trivial,trivial,trivial,trivial,trivial⟩,?_⟩
    refine zj rfl (WP.skip (zg rfl (zm rfl (zb rfl (by exact bl (aF (by omega) (by omega))) ?_))))
    refine za rfl (zv (zw (zg rfl (zm rfl (za rfl (zv (WP.block ?_)))))))
    refine IU s (k1:=2) (k2:=3) rfl hX rfl hY vH iq (512-(i+1)) (i+1) (i+1) _ _ (by omega) (Nat.lt_succ_self i) (Nat.le_refl _) ⟨rfl,rfl,rfl,rfl,rfl,rfl,rfl,trivial⟩ (fun e' E' TY TZ fu => ?_)
    refine WP.has fu ?_
    have T0:=fq hv (a:=i) (b:=e') (by omega) (by omega)
    refine zg rfl (zm rfl (zm rfl (zm rfl (zm rfl (zm rfl (zm rfl (zo rfl (bM (p:=some (.int .i64 (i:Int))) (q:=some (.int .i64 (e':Int))) (m:=none) (p':=some i) (q':=some e') (m':=none) rfl rfl rfl rfl (by rw [dN (by omega)]; rfl) (by rw [dN (by omega)]; rfl) rfl T0.1) ?_)))))))
    refine ae.call rfl rfl rfl rfl rfl rfl rfl (iQ hT (s.aa [3]) (iP hY (a:=i) (b:=e') (by omega) (by omega)) (by simp; omega)) ?_
    intro w h s
    dsimp only [bringA,getA,ai] at s
    obtain ⟨wid,_,J,_,rfl,_⟩:=s.gJ (by simp; omega)
    have s:=s.eF
    generalize zR:(now.take e').drop i=bs at s
    refine zo rfl (bW rfl (by rw [Ii]; rfl)) ?_
    obtain ⟨rv,h1,AL,s1⟩:=jG (P:=Tryz.prog) (k:=4) (x:=.agg [.int .i64 pg,.int .i64 (i:Int),.bool false,.sl wid 0 bs.length J]) s Tryz.underlying38 lS mH rfl (by decide) (by decide) rfl rfl
    dsimp only [V.cells] at s1
    refine ae.any rfl rfl rfl (OpR.of (R:=fun v h'=>v=rv∧h'=h1) (mD rfl AL) ⟨rfl,rfl⟩) ?_
    rintro v' h' ⟨rfl,rfl⟩
    obtain ⟨i1,js,iI,pq⟩:=oa
    have nW:cs.length=acc.length*4:=by
     obtain ⟨a,b,q1,q2,q3⟩:=s1.at (k:=4) rfl
     exact kn q3
    obtain ⟨U,h2,pE,s2⟩:=fP (s1.aa [3,0]) Tryz.underlying38 js lS iI (by omega) rfl (by decide) (by simp only [List.length_cons,List.length_nil]; omega)
    dsimp only [bringA,getA,ai] at s2
    refine ae.any rfl rfl rfl (OpR.of (R:=fun v h'=>v=U∧h'=h2) (j_ rfl rfl pE) ⟨rfl,rfl⟩) ?_
    rintro v' h' ⟨rfl,rfl⟩
    refine za rfl (zv (zr rfl (zm rfl (za rfl (zv ?_)))))
    have s3:Sat _ (bP cs acc::.bp (.sl wid 0 bs.length J) bs::_):=s2.aa [4,2]
    have s4:=s3.two (C:=bP (cs++[.int .i64 pg,.int .i64 (i:Int),.bool false,.sl wid 0 bs.length J]) (acc++[⟨pg,i,false,bs⟩])) (aq.lK _ _) (aq.bp _ _) fun a b q1 q2=>qh q1 ⟨⟨⟨rfl,rfl,rfl⟩,q2⟩,trivial⟩
    dsimp only [bringA,getA,ai] at s4
    have s5:=(s4.aa [1,0,2,1]).del 4
    dsimp only [bringA,getA,ai] at s5
    refine ih e' (acc++[⟨pg,(i:Int),false,bs⟩]) _ _ _ _ Q (by omega) TZ (by simp; omega) s5 (fun l hl => ?_) ⟨rfl,rfl,rfl,rfl,rfl,trivial⟩ hq
    have:=I _ (.take i e' l TY (by omega) hl)
    rw [zR] at this
    rwa [List.append_assoc]
  ·have Wa:i=512:=by omega
   refine WP.loop (WP.has hE (zw (zg rfl (zm rfl (zm rfl (zo rfl (aL rfl rfl rfl hlen) (ae.aE rfl rfl rfl (af rfl rfl aX) (by simp <;> omega) ?_)))))))
   refine zv (zj rfl (WP.exit ?_))
   have:=I [] (.done _ (by omega))
   rw [List.append_nil] at this
   exact hq av cs acc _ _ this (by omega) s ⟨rfl,rfl,trivial⟩
theorem GI (hT:W told){pg:Int}(s:Sat h (X::Y::S))(hX:bU X (bZ u c8))(hY:bU Y (bZ v now))(J:c8.length=512)(U:now.length=512):
  Call ⟨Tryz.prog,told⟩ 87 [.int .i64 pg,u,v] h fun w h'=>∃cs l,Km pg c8 now l∧l.length≤512∧Sat h' (.arr 4 w cs::bP cs l::X::Y::S):=by
 refine Call.of_wp (hT.free _ rfl) Tryz.func87 rfl rfl (zg rfl (za rfl (zv (zg rfl (za rfl (zv (zw (zg rfl (za rfl (zv (WP.block ?_)))))))))))
 refine IV hT (pg:=pg) hX hY J U 500 12 [] .aH [] _ _ _ (by omega) (by omega) (by simp) ((s.eu trivial).jZ) (fun l hl=>hl) ⟨rfl,rfl,rfl,rfl,rfl,trivial⟩ (fun vO cs' l E' h' hr x_ s' fu => ?_)
 have s:=s'
 have hlen:=s.pF (j1:=0) (j2:=1) rfl rfl Tryz.underlying38
 have vP:=s.gx (j:=0) rfl
 refine WP.has fu (zw (zg rfl (zm rfl (zo rfl (aL rfl rfl rfl hlen) ?_))))
 by_cases I:l=[]
 ·skip
  refine ae.aR rfl rfl rfl (af rfl rfl cS) (by subst I; rfl) ?_
  refine zv (zi rfl (zg rfl (zm rfl (zo rfl (bW rfl (by rw [Ii]; rfl)) ?_))))
  obtain ⟨rv,h1,AL,s1⟩:=jG (P:=Tryz.prog) (k:=4) (x:=.agg [.int .i64 pg,.int .i64 0,.bool false,.aH]) s Tryz.underlying38 lS mH rfl (by decide) (by decide) rfl rfl
  dsimp only [V.cells] at s1
  refine ae.any rfl rfl rfl (OpR.of (R:=fun v h'=>v=rv∧h'=h1) (mD rfl AL) ⟨rfl,rfl⟩) ?_
  rintro v' h' ⟨rfl,rfl⟩
  refine za rfl (zv ?_)
  refine WP.ret ⟨trivial,_,rfl,?_⟩
  refine ⟨[.int .i64 pg,.int .i64 0,.bool false,.aH],[⟨pg,0,false,[]⟩],⟨l,hr,by rw [if_pos I]⟩,by simp,?_⟩
  have s2:=(s1.del 2).del 1
  have s3:Sat _ (.bp .aH []::.arr 4 v' _::X::Y::S):=s2.mh
  have s4:=s3.dY (B:=bP [.int .i64 pg,.int .i64 0,.bool false,.aH] [⟨pg,0,false,[]⟩]) fun a b q=>⟨⟨⟨rfl,rfl,rfl⟩,q⟩,trivial⟩
  exact s4.aa [1,0]
 ·skip
  refine ae.aE rfl rfl rfl (af rfl rfl cS) (by cases l with | nil=>exact absurd rfl I | cons _ _=>simp; omega) ?_
  refine zv (zj rfl (WP.skip (zg rfl (zm rfl (za rfl (zv ?_))))))
  refine WP.ret ⟨trivial,_,rfl,?_⟩
  exact ⟨_,l,⟨l,hr,by rw [if_neg I]⟩,x_,s⟩
end
end Go.Proofs.YtconhghphklfjaaGreat.Am
namespace Go.Proofs.YtconhghphklfjaaGreat.Am
open Go
def fe (m:List Fm): Nat:=(m.map (·.changed)).count true
theorem ja {f g:Fm}: ∀ {m:List Fm} {i:Nat},m[i]?=some f→fe (m.set i g)+f.changed.toNat=fe m+g.changed.toNat:=by
 intro m
 induction m with
 | nil=>intro i h; simp at h
 | cons x m I =>
  intro i h
  cases i with
  | zero =>
   simp at h
   subst h
   simp only [fe,List.set_cons_zero,List.map_cons,List.count_cons]
   cases x.changed <;> cases g.changed <;> simp
  | succ i =>
   rw [List.getElem?_cons_succ] at h
   have:=I h
   simp only [fe,List.set_cons_succ,List.map_cons,List.count_cons] at this ⊢
   omega
theorem vQ {g:Fm}(I:g.changed=false): ∀ {m:List Fm} {i:Nat},fe (m.set i g)≤fe m:=by
 intro m i
 cases h:m[i]? with
 | none =>
  have:m.length≤i:=by simpa using h
  rw [List.set_eq_of_length_le this]
  exact Nat.le_refl _
 | some f =>
  have:=ja (g:=g) h
  rw [I] at this
  simp only [Bool.toNat_false] at this
  omega
def b8 (ε:aM): Nat:=ε.2.2.waiting.length+fe ε.1.ag
theorem ob {ε:aM}: ε.2.2.waiting.length≤b8 ε:=Nat.le_add_right _ _
theorem dU.count {π I:Pl}(J:dU π I): fe I.ag=fe π.ag:=by
 have:I.ag.map (·.changed)=π.ag.map (·.changed):=by
  refine List.ext_getElem? fun i => ?_
  rw [List.getElem?_map,List.getElem?_map]
  cases h:π.ag[i]? with
  | none =>
   have U:π.ag.length≤i:=by simpa using h
   have:I.ag[i]?=none:=by simp [J.len,U]
   rw [this]
  | some f =>
   obtain ⟨t,ht⟩:=J.get i f h
   rw [ht]; rfl
 simp only [fe,this]
theorem AM {δ:Dk}{n:Int}{b:List Nat}(h:(δ.bF n b).1≠0): (δ.bF n b).2.waiting=δ.waiting:=by
 unfold Dk.bF at h ⊢
 split
 ·rfl
 ·rename_i I
  rw [if_neg I] at h
  split
  ·rfl
  ·rename_i J
   rw [if_neg J] at h
   split
   ·rfl
   ·rename_i U
    rw [if_neg U] at h
    exact absurd rfl h
theorem IW {ε:aM}{i:Nat}: b8 (outF ε i).2≤b8 ε:=by
 unfold outF
 split
 ·exact Nat.le_refl _
 ·rename_i f J
  split
  ·exact Nat.le_refl _
  ·rename_i I
   have I:f.changed=true:=by cases h:f.changed <;> simp [h] at I ⊢
   split
   ·exact Nat.le_refl _
   ·split
    ·simp only [b8,lB]; exact Nat.le_refl _
    ·split
     ·rename_i hw
      simp only [b8,AM hw,lB]; exact Nat.le_refl _
     ·have U:=BQ (δ:=(bD ε.2 (dm f.b 4 8)).2.2) (n:=f.aO) (b:=f.b)
      rw [lB] at U
      have h2:=ja (g:={ f with changed:=false }) J
      simp only [I,Bool.toNat_true,Bool.toNat_false] at h2
      simp only [b8]
      omega
theorem r7 {π:Pl}{i:Nat}{f:Fm}: fe (cD π i f).ag≤fe π.ag:=vQ rfl
theorem dV.b8 {ε ε':aM}{n e:Int}{b:List Nat}(hr:dV ε n e b ε'): Am.b8 ε'≤Am.b8 ε:=by
 have qn:∀ {I:Pl},dU ε.1 I→∀i,Am.b8 (outF (I,ε.2) i).2≤Am.b8 ε:=fun {I} J i=>by
  have:=IW (ε:=(I,ε.2)) (i:=i)
  refine Nat.le_trans this ?_
  simp only [Am.b8,J.count]
  exact Nat.le_refl _
 cases hr with
 | arg _=>exact Nat.le_refl _
 | xV i f h1 U hl hf =>
  have U:=ja (g:={ f with dn:=true,pins:=f.pins+1 }) hf
  simp only [Am.b8] at U ⊢
  omega
 | out I i f h1 U hl J hf hh he=>exact qn J i
 | read I i f h1 U hl J hf hh he hr=>exact Nat.le_trans (Nat.add_le_add_left r7 _) (qn J i)
 | bad I i f h1 U hl J hf hh he hr hc=>exact Nat.le_trans (Nat.add_le_add_left r7 _) (qn J i)
 | load I i f h1 U hl J hf hh he hr hc=>exact Nat.le_trans (Nat.add_le_add_left (Nat.le_trans (vQ rfl) r7) _) (qn J i)
theorem vR {π:Pl}{n:Int}: fe (unpinF π n).2.ag=fe π.ag:=by
 unfold unpinF
 split
 ·rfl
 ·split
  ·rfl
  ·rename_i i hi f I
   have J:=ja (g:={ f with pins:=f.pins-1 }) I
   simp only at J ⊢
   omega
theorem kK.b8 {ε ε':aM}{n e:Int}{b:List Nat}(I:kK ε n e b ε'): Am.b8 ε'≤Am.b8 ε:=by
 cases I with
 | dead _=>exact Nat.le_refl _
 | gS e b ε' J I he=>exact I.b8
 | oB b ε' J I he=>have:=I.b8; simp only [Am.b8,vR] at this ⊢; exact this
 | read b ε' J I he=>have:=I.b8; simp only [Am.b8,vR] at this ⊢; exact this
theorem kM.b8 {ε ε':aM}{now:List (Int×List Nat)}{bq:Bool}{n e:Int}{b:List Nat}(I:kM ε now bq n e b ε'): Am.b8 ε'≤Am.b8 ε:=by
 cases I with
 | arg _=>exact Nat.le_refl _
 | bq _ _ _=>exact Nat.le_refl _
 | own _ _ _ _ _=>exact Nat.le_refl _
 | read e b ε' J U h3 hl I=>exact I.b8
theorem oE.b8 {ε ε':aM}{now eY:List (Int×List Nat)}{bq:Bool}{n e:Int}{b:List Nat}(I:oE ε now bq n b e eY ε'): Am.b8 ε'≤Am.b8 ε:=by
 cases I with
 | may e c ε' I he=>exact I.b8
 | bad c ε' I J=>exact I.b8
 | done c ε' I J=>exact I.b8
end Go.Proofs.YtconhghphklfjaaGreat.Am
namespace Go.Proofs.YtconhghphklfjaaGreat.Am
open Go
inductive iu (now:List (Int×List Nat)): List Int→aM→Int→List bV→aM→Prop where
 | nil (ε:aM):iu now [] ε 0 [] ε
 | err (n:Int) (l:List Int) (ε:aM) (e:Int) (b:List Nat) (ε':aM) (hr:kK ε n e b ε') (he:e≠0):iu now (n::l) ε e [] ε'
 | part (n:Int) (l:List Int) (ε:aM) (c8 b:List Nat) (ε':aM) (c:List bV) (e:Int) (cs:List bV) (mA:aM) (hr:kK ε n 0 c8 ε') (hb:lookL n now=some b) (hd:(lookL n ε'.1.cC).isSome=true) (hc:Km n c8 b c) (hl:c.length≤512) (ht:iu now l ε' e cs mA):iu now (n::l) ε e (c++cs) mA
 | whole (n:Int) (l:List Int) (ε:aM) (c8 b:List Nat) (ε':aM) (e:Int) (cs:List bV) (mA:aM) (hr:kK ε n 0 c8 ε') (hb:lookL n now=some b) (hd:(lookL n ε'.1.cC).isSome=false) (ht:iu now l ε' e cs mA):iu now (n::l) ε e (⟨n,0,true,b⟩::cs) mA
theorem iu.kL {now:List (Int×List Nat)}{l:List Int}{ε ε':aM}{e:Int}{cs:List bV}(I:iu now l ε e cs ε')(h:ga ε): ga ε':=by
 induction I with
 | nil ε=>exact h
 | err n l ε e b ε' I he=>exact I.kL h
 | part n l ε c8 b ε' c e cs J I hb hd hc hl ht U=>exact U (I.kL h)
 | whole n l ε c8 b ε' e cs J I hb hd ht U=>exact U (I.kL h)
theorem iu.b8 {now:List (Int×List Nat)}{l:List Int}{ε ε':aM}{e:Int}{cs:List bV}(I:iu now l ε e cs ε'): Am.b8 ε'≤Am.b8 ε:=by
 induction I with
 | nil ε=>exact Nat.le_refl _
 | err n l ε e b ε' I he=>exact I.b8
 | part n l ε c8 b ε' c e cs J I hb hd hc hl ht U=>exact Nat.le_trans U I.b8
 | whole n l ε c8 b ε' e cs J I hb hd ht U=>exact Nat.le_trans U I.b8
theorem oR {P:Program}{E:List (Nat×V)}{h:H}{a b:Nat}{v w:V}(I:look E a=some v)(J:look E b=some w): gw P E h [.tmp a,.tmp b]=some (.aW [v,w]):=by simp only [gw,mapO,resE,I,J]
section
variable {told:Nat→Option (List V→H→Option (V×H))} {h:H} {S:List ah} {X Y:ah} {r k q p bw a g aK:Nat} {op v x u wh di:V} {l b c8 data:List Nat} {now:List (Int×List Nat)} {bq:Bool} {ε:aM}
theorem qo (I:W told){id:Nat}(s:Sat h S): Call ⟨Tryz.prog,told⟩ 51 [.map id] h fun v h'=>∃b,v=.fn (.func 92) [] [.ptr b 0]∧Sat h' (pt b (.cells 1 [.map id] false)::S):=by
 refine Call.of_wp (I.free _ rfl) Tryz.func51 rfl rfl (zg rfl ?_)
 refine ae.bO s rfl rfl rfl (ff rfl rfl) (fun J h s => ?_)
 dsimp only [V.cells,List.length_cons,List.length_nil,Nat.reduceAdd] at s
 refine za rfl (zv (zg rfl (zo rfl (yJ rfl rfl) (za rfl (zv ?_)))))
 refine WP.ret ⟨trivial,_,rfl,?_⟩
 exact ⟨_,rfl,s⟩
theorem GJ (I:W told)(s:Sat h (eE g a now bq::S))(hm:now.length≤1048576)(U:∀n∈now.map (·.1),(Lit.int .i64 n).wf=true):
  Call ⟨Tryz.prog,told⟩ 85 [.ptr g 0] h fun v h'=>Sat h' (.arr 1 v (dO (ck now))::eE g a now bq::S):=by
 obtain ⟨nv,s⟩:=dc.1 s
 obtain ⟨J,rfl⟩:=Af s (j:=1) rfl
 refine Call.of_wp (I.free _ rfl) Tryz.func85 rfl rfl (zg rfl (za rfl (zv (zg rfl (zm rfl (zn rfl (zf rfl (nQ _ _) (zl rfl (by exact s.ld (k:=0) rfl iD rfl) ?_))))))))
 refine ae.call rfl rfl rfl rfl rfl rfl rfl (qo I s) ?_
 rintro v h ⟨b,rfl,s⟩
 refine ae.call rfl rfl rfl rfl rfl rfl rfl (oA I (s.aa [0,1]) (by decide) hm U) ?_
 intro kv h s
 dsimp only [bringA,getA,ai] at s
 refine za rfl (zv ?_)
 refine WP.ret ⟨trivial,_,rfl,?_⟩
 exact (dc.2 ⟨.map J,(s.aa [3,2,0]).del 3⟩).aa [1]
noncomputable def T1 : Code:=cn [1,1,0,1,0,0] ((Tryz.f47.body).getD .skip)
theorem AN (hT:W told){ks:List Int}{kv:V}(QH:ks.length≤65536)(GK:∀n∈ks,(lookL n now).isSome=true)(ko:∀e∈now,e.2.length=512): ∀(j i:Nat) (acc:List bV) (av:V) (cs:List V) (ε:aM) (h:H) (E:List (Nat×V)) (Q:Ex→List (Nat×V)→H→Prop),i+j=ks.length →
  ga ε→b8 ε≤268435456→acc.length≤512*i →
  Sat h (.arr 4 av cs::bP cs acc::eE g a now bq::cz a p q r op data aK::cB r p q ε.1::bj q p ε.2.1::az p ε.2.2::.arr 1 kv (dO ks)::S) →
  Has E [(0,.ptr g 0),(4,av),(13,kv),(14,.int .i64 ks.length),(15,.int .i64 i)] →
  (∀e c ε' U h',iu now (ks.drop i) ε e c ε'→e≠0→look U 2=some .aH→look U 3=some (.int .i64 e)→Sat h' (eE g a now bq::cz a p q r op data aK::cB r p q ε'.1::bj q p ε'.2.1::az p ε'.2.2::S)→Q .ret U h') →
  (∀c ε' U h' vO cs',iu now (ks.drop i) ε 0 c ε'→acc.length+c.length≤512*ks.length→Has U [(4,vO)]→Sat h' (.arr 4 vO cs'::bP cs' (acc++c)::eE g a now bq::cz a p q r op data aK::cB r p q ε'.1::bj q p ε'.2.1::az p ε'.2.2::S)→Q (.exit 0) U h') →
  WP ⟨Tryz.prog,told⟩ 65 (.loop T1) E h Q:=by
 intro j
 induction j with
 | zero =>
  intro i acc av cs ε h E Q hj kO hw NO s hE hr hx
  refine WP.loop (WP.has hE (zg rfl (ae.aE rfl rfl rfl (af rfl rfl aX) (by simp <;> omega) ?_)))
  refine zv (zw (zj rfl (WP.exit ?_)))
  rw [List.drop_eq_nil_of_le (by omega)] at hx
  have s1:=s.del 7
  dsimp only [ai] at s1
  refine hx [] ε _ _ av cs (.nil ε) (by simp; omega) ⟨rfl,trivial⟩ ?_
  rw [List.append_nil]
  exact s1
 | succ j ih =>
  intro i acc av cs ε h E Q hj kO hw NO s hE hr hx
  have hn:ks[i]?=some (ks[i]'(by omega)):=List.getElem?_eq_getElem _
  have uf:ks[i]'(by omega)∈ks:=List.getElem_mem _
  have ji:ks.drop i=ks[i]'(by omega)::ks.drop (i+1):=List.drop_eq_getElem_cons (by omega)
  generalize (ks[i]'(by omega))=n at hn uf ji
  have hc:(dO ks)[i]?=some (.int .i64 n):=by simp [dO,hn]
  obtain ⟨b,hb⟩:=Option.isSome_iff_exists.1 (GK n uf)
  have yR:=ko _ (fc hb)
  simp only at yR
  rw [ji] at hr hx
  obtain ⟨id,off,e1,e2⟩:=lW (P:=Tryz.prog) s (k:=7) rfl hc Tryz.underlying98 jh
  refine WP.loop (WP.has hE (zg rfl (ae.aR rfl rfl rfl (af rfl rfl aX) (by simp <;> omega) ?_)))
  refine zv (zw (zi rfl (WP.skip (zw (WP.block (zg rfl (zo rfl (cH (r:=.ptr id off) rfl rfl e1) (zl rfl (e2 _ cq) ?_))))))))
  obtain ⟨nv,s⟩:=dc.1 (s.aa [2])
  dsimp only [bringA,getA,ai] at s
  refine za rfl (zv (zg rfl (zm rfl (zn rfl (zf rfl (nP _ _) (zl rfl (by exact s.ld (k:=0) rfl um rfl) ?_))))))
  refine zm rfl (ae.call rfl rfl rfl rfl rfl rfl rfl (AG (n:=n) hT (s.aa [4,4,4,4]) kO.ok kO.pins (Nat.le_trans ob hw)) ?_)
  rintro v h ⟨e,w,ε',J,(⟨he,rfl,s⟩ | ⟨rfl,u,rfl,s⟩)⟩
  ·dsimp only [bringA,getA,ai] at s
   refine zm rfl (ze rfl (ze rfl (za rfl (za rfl (zv (zw (zg rfl (zm rfl (ae.aR rfl rfl rfl (af rfl rfl aN) (by simp; exact he) ?_)))))))))
   refine zv (zi rfl (zg rfl (zm rfl (za rfl (za rfl (zv (WP.ret (hr e [] ε' _ _ (.err n _ ε e w ε' J he) he rfl rfl ?_))))))))
   have s:=dc.2 ⟨nv,s.aa [4,4]⟩
   dsimp only [bringA,getA,ai] at s
   exact ((s.del 7).del 6).del 5
  ·dsimp only [bringA,getA,ai] at s
   have QI:=J.kL kO
   have lH:=Nat.le_trans J.b8 hw
   have hlen:=J.len kO
   refine zm rfl (ze rfl (ze rfl (za rfl (za rfl (zv (zw (zg rfl (zm rfl (ae.aE rfl rfl rfl (af rfl rfl aN) (rfl) ?_)))))))))
   have s:=s.eF
   have s:=s.aa [5,5,1,1,1,1,1,1,1,0]
   dsimp only [bringA,getA,ai] at s
   rcases iL (n:=n) (fun _ _=>aq.bp _ _) (s.aa [1]) Tryz.underlying86 Tryz.underlying3 rI with ⟨g1,g2,_⟩ | ⟨nw,b',g1,_,g2,s2⟩
   ·rw [hb] at g1; cases g1
   rw [hb] at g1
   have:=Option.some.inj g1
   subst this
   refine zv (zj rfl (WP.skip (zg rfl (zm rfl (zn rfl (zf rfl (nQ _ _) (zl rfl (by exact s.ld (k:=0) rfl iD rfl) ?_)))))))
   refine zm rfl (zo rfl (fo rfl rfl g2) ?_)
   obtain ⟨dv,s⟩:=bQ.1 (s2.aa [3])
   dsimp only [bringA,getA,ai] at s
   have s:=s.aa [4]
   dsimp only [bringA,getA,ai] at s
   refine za rfl (zv (zg rfl (zm rfl (zn rfl (zf rfl (nP _ _) (zl rfl (by exact s.ld (k:=0) rfl um rfl) ?_))))))
   refine zn rfl (zf rfl (o7 _ _) (zl rfl (by exact s.ld (k:=1) rfl wM rfl) ?_))
   refine zm rfl (ae.call rfl rfl rfl rfl rfl rfl rfl (ND (n:=n) hT (s.aa [5])) ?_)
   rintro v h ⟨rfl,s⟩
   dsimp only [bringA,getA,ai] at s
   refine zm rfl (ze rfl (ze rfl (za rfl (za rfl (zv (zg rfl (zm rfl (zv ?_))))))))
   cases hd:(lookL n ε'.1.cC).isSome with
   | true =>
    refine zi rfl (zr rfl (zm rfl (zm rfl (zm rfl (zm rfl (ae.call rfl rfl rfl rfl rfl rfl rfl (GI hT (u:=u) (v:=nw) (pg:=n) (s.aa [11,4]) (bN _ _) (bN _ _) hlen yR) ?_))))))
    rintro rv h ⟨NP,c,hc,nW,s⟩
    dsimp only [bringA,getA,ai] at s
    obtain ⟨i1,js,iI,pq⟩:=oa
    have IX:cs.length=acc.length*4:=by
     obtain ⟨a,b,q1,q2,q3⟩:=s.at (k:=12) rfl
     exact kn q3
    have Vv:NP.length=c.length*4:=by
     obtain ⟨a,b,q1,q2,q3⟩:=s.at (k:=1) rfl
     exact kn q3
    obtain ⟨vO,h2,pE,s2⟩:=fP (s.aa [11,0]) Tryz.underlying38 js lS iI (by omega) rfl (by decide) (by omega)
    dsimp only [bringA,getA,ai] at s2
    refine ae.any rfl rfl rfl (OpR.of (R:=fun v h'=>v=vO∧h'=h2) (j_ rfl rfl pE) ⟨rfl,rfl⟩) ?_
    rintro v' h' ⟨rfl,rfl⟩
    refine za rfl (zv (zr rfl (zb rfl (by exact bl (aF (by omega) (by omega))) ?_)))
    refine zm rfl (zv ?_)
    have s3:Sat _ (bP cs acc::bP NP c::_):=s2.aa [12,2]
    have s4:=s3.two (C:=bP (cs++NP) (acc++c)) (aq.lK _ _) (aq.lK _ _) fun a b q1 q2=>qh q1 q2
    dsimp only [bringA,getA,ai] at s4
    have s5:=bQ.2 ⟨dv,s4.aa [7,7]⟩
    dsimp only [bringA,getA,ai] at s5
    have s6:=dc.2 ⟨nv,s5.aa [7,7]⟩
    dsimp only [bringA,getA,ai] at s6
    have s7:=(((s6.aa [3,2,0,0,3,3,3,3]).del 10).del 9).del 8
    dsimp only [bringA,getA,ai] at s7
    refine ih (i+1) (acc++c) _ _ ε' _ _ Q (by omega) QI lH (by simp; omega) s7 ⟨rfl,rfl,rfl,rfl,rfl,trivial⟩ (fun e c' I U h' ht he l2 l3 s' => ?_) (fun c' I U h' IY qT ht hl fu s' => ?_)
    ·exact hr e _ I U h' (.part n _ ε w b ε' c e c' I J hb hd hc nW ht) he l2 l3 s'
    ·refine hx (c++c') I U h' IY qT (.part n _ ε w b ε' c 0 c' I J hb hd hc nW ht) (by simp at hl ⊢; omega) fu ?_
     rw [←List.append_assoc]
     exact s'
   | false =>
    refine zj rfl (zr rfl (zm rfl (zm rfl (zm rfl (ae.call rfl rfl rfl rfl rfl rfl rfl (iQ hT (s.aa [4]) (bN _ _) (by omega)) ?_)))))
    intro cw h s
    dsimp only [bringA,getA,ai] at s
    obtain ⟨wid,_,IZ,_,rfl,_⟩:=s.gJ (by omega)
    have s:=s.eF
    refine zo rfl (bW rfl (by rw [Ii]; rfl)) ?_
    obtain ⟨rv,h1,AL,s1⟩:=jG (P:=Tryz.prog) (k:=4) (x:=.agg [.int .i64 n,.int .i64 0,.bool true,.sl wid 0 b.length IZ]) s Tryz.underlying38 lS mH rfl (by decide) (by decide) rfl rfl
    dsimp only [V.cells] at s1
    refine ae.any rfl rfl rfl (OpR.of (R:=fun v h'=>v=rv∧h'=h1) (mD rfl AL) ⟨rfl,rfl⟩) ?_
    rintro v' h' ⟨rfl,rfl⟩
    obtain ⟨i1,js,iI,pq⟩:=oa
    have IX:cs.length=acc.length*4:=by
     obtain ⟨a,b,q1,q2,q3⟩:=s1.at (k:=11) rfl
     exact kn q3
    obtain ⟨vO,h2,pE,s2⟩:=fP (s1.aa [10,0]) Tryz.underlying38 js lS iI (by omega) rfl (by decide) (by simp only [List.length_cons,List.length_nil]; omega)
    dsimp only [bringA,getA,ai] at s2
    refine ae.any rfl rfl rfl (OpR.of (R:=fun v h'=>v=vO∧h'=h2) (j_ rfl rfl pE) ⟨rfl,rfl⟩) ?_
    rintro v' h' ⟨rfl,rfl⟩
    refine za rfl (zv (zr rfl (zb rfl (by exact bl (aF (by omega) (by omega))) ?_)))
    refine zm rfl (zv ?_)
    have s3:Sat _ (bP cs acc::.bp (.sl wid 0 b.length IZ) b::_):=s2.aa [11,2]
    have s4:=s3.two (C:=bP (cs++[.int .i64 n,.int .i64 0,.bool true,.sl wid 0 b.length IZ]) (acc++[⟨n,0,true,b⟩])) (aq.lK _ _) (aq.bp _ _) fun a b q1 q2=>qh q1 ⟨⟨⟨rfl,rfl,rfl⟩,q2⟩,trivial⟩
    dsimp only [bringA,getA,ai] at s4
    have s5:=bQ.2 ⟨dv,s4.aa [6,6]⟩
    dsimp only [bringA,getA,ai] at s5
    have s6:=dc.2 ⟨nv,s5.aa [6,6]⟩
    dsimp only [bringA,getA,ai] at s6
    have s7:=(((s6.aa [3,2,0,0,2,2,2,2]).del 10).del 9).del 8
    dsimp only [bringA,getA,ai] at s7
    refine ih (i+1) (acc++[⟨n,0,true,b⟩]) _ _ ε' _ _ Q (by omega) QI lH (by simp; omega) s7 ⟨rfl,rfl,rfl,rfl,rfl,trivial⟩ (fun e c' I U h' ht he l2 l3 s' => ?_) (fun c' I U h' IY qT ht hl fu s' => ?_)
    ·exact hr e _ I U h' (.whole n _ ε w b ε' e c' I J hb hd ht) he l2 l3 s'
    ·refine hx (⟨n,0,true,b⟩::c') I U h' IY qT (.whole n _ ε w b ε' 0 c' I J hb hd ht) (by simp at hl ⊢; omega) fu ?_
     rw [List.append_assoc] at s'
     exact s'
theorem Ee (U:W told)(s:Sat h (eE g a now bq::cz a p q r op data aK::cB r p q ε.1::bj q p ε.2.1::az p ε.2.2::S))(kO:ga ε)(hw:b8 ε≤268435456)(I:∀e∈now,e.2.length=512)(hm:now.length≤65536)(hk:∀n∈now.map (·.1),(Lit.int .i64 n).wf=true):
  Call ⟨Tryz.prog,told⟩ 47 [.ptr g 0] h fun v h'=>∃e c ε',iu now (ck now) ε e c ε' ∧
   ((e≠0∧v=.aW [.aH,.int .i64 e]∧Sat h' (eE g a now bq::cz a p q r op data aK::cB r p q ε'.1::bj q p ε'.2.1::az p ε'.2.2::S)) ∨
    (e=0∧c.length≤33554432∧∃av cs,v=.aW [av,.int .i64 0]∧Sat h' (.arr 4 av cs::bP cs c::eE g a now bq::cz a p q r op data aK::cB r p q ε'.1::bj q p ε'.2.1::az p ε'.2.2::S))):=by
 have hl:(ck now).length=now.length:=by rw [ck,(en _).length_eq,List.length_map]
 refine Call.of_wp (U.free _ rfl) Tryz.func47 rfl rfl (zg rfl (za rfl (za rfl (zv (zg rfl (za rfl (zv (zw (zg rfl (zm rfl (ae.call rfl rfl rfl rfl rfl rfl rfl (GJ U s (by omega) hk) ?_)))))))))))
 intro kv h s
 refine zo rfl (aL rfl rfl rfl (s.iH (n:=(ck now).length) (j:=0) rfl (by simp [dO]) (by decide) Tryz.underlying98)) ?_
 refine zm rfl (zv (WP.block ?_))
 have s1:=(((s.eu trivial).jZ (k:=4)).dY fun a b q=>q).aa [0,0,1,1,1,1,1,0]
 dsimp only [bringA,getA,ai] at s1
 refine AN U (ks:=ck now) (now:=now) (by omega) (fun n hn => ?_) I (ck now).length 0 [] .aH [] ε _ _ _ (by omega) kO hw (by simp) s1 ⟨rfl,rfl,rfl,rfl,rfl,trivial⟩ (fun e c ε' E' h' J he l2 l3 s' => ?_) (fun c ε' E' h' av cs J nW fu s' => ?_)
 ·have:n∈now.map (·.1):=(en _).mem_iff.1 hn
  cases hq:lookL n now with
  | some _=>rfl
  | none=>exact absurd this (jI.1 hq)
 ·rw [List.drop_zero] at J
  exact ⟨trivial,_,oR l2 l3,e,c,ε',J,.inl ⟨he,rfl,s'⟩⟩
 ·rw [List.drop_zero] at J
  have s:=s'
  refine WP.has fu (zg rfl (zm rfl (za rfl (za rfl (zv ?_)))))
  refine WP.ret ⟨trivial,_,rfl,?_⟩
  exact ⟨0,c,ε',J,.inr ⟨rfl,by simp at nW; omega,_,_,rfl,s⟩⟩
end
end Go.Proofs.YtconhghphklfjaaGreat.Am
