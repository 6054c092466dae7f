/- SpacePlays: a part of its proof; conditions: its statement's. -/
import Derived.Test.YtefepnnfphdkpaaGreatE31
namespace Go.Proofs.YtefepnnfphdkpaaGreat.Am
open Go
theorem Pk : ∃i,Tryz.prog.info? 28=some i∧i.size=1∧i.bytes=24 :=
 ⟨_,(show Tryz.prog.info? 28=some ((Tryz.prog.info? 28).getD default) by kernel_rfl),by kernel_rfl,by kernel_rfl⟩
section
variable {told:cZ} {h:H} {S:List au} {X Y:au} {k:Nat} {v x:V} {b l c c':List Nat} {kd link extra:Nat} {cs:List (List Nat)}
theorem Sv (I:W told)(s:Sat h (X::Y::S))(hX:c8 X (c9 v b))(hY:c8 Y (c9 x c))(hp:dP b kd link extra cs)(hf:26+4*(cs.length+1)+(tot cs+c.length)≤512):
  Call ⟨Tryz.prog,told⟩ 48 [v,.int .i64 (cs.length:Int),x] h fun r h'=>∃u b',r=.aY [u,.int .i64 0]∧dP b' kd link extra (cs++[c])∧Sat h' (aZ u b'::X::Y::S):=by
 have hl:=hp.len
 have p_:=hp.low
 have hle:∀n,(le 2 n).length=2:=fun n=>cJ 2 n
 generalize hn:cs.length=n at hf
 have J:=hp.c6
 have nA:∃lo,lo+(tot cs+c.length)=512:=⟨512-(tot cs+c.length),by omega⟩
 obtain ⟨lo,nA⟩:=nA
 have l1:(bk b 14 (le 2 (n+1))).length=512:=by rw [cI (by rw [hle]; omega),hl]
 have jQ:hG (bk b 14 (le 2 (n+1)))=lo+c.length:=by
  have:hG (bk b 14 (le 2 (n+1)))=hG b:=zZ (by rw [hle]; omega) (by rw [hle]; omega)
  rw [this]; omega
 refine Call.of_wp (I.free _ rfl) Tryz.func48 rfl rfl (zK 8 rfl (zc rfl (tZ I s hX (by omega)) ?_))
 rintro r h' (⟨hg,u,rfl,s⟩ | ⟨hg,rfl,s⟩)
 ·obtain ⟨sZ,_,cap,_,rfl,_⟩:=s.fB (by omega)
  refine zk 3 rfl ?_
  refine az.cz s rfl rfl rfl (cy jC) (fun p8 h s => ?_)
  dsimp only [V.cells,List.length_cons,List.length_nil,Nat.reduceAdd] at s
  refine zS rfl (s.eZ (j:=0) rfl bA rfl rfl) (fun h s => ?_)
  dsimp only [setA] at s
  refine zk 3 rfl (WP.block (zK 3 rfl (zh rfl (af rfl rfl aG) (rfl) (zk 6 rfl (zh rfl (af rfl rfl aK) (by simp) ?_)))))
  refine zk 2 rfl (zl rfl (s.bZ (k:=0) rfl cg bA) (zc rfl (kL I s (k:=1) rfl (bz _ _) hl) ?_))
  rintro r h' ⟨rfl,s⟩
  rw [J,hn]
  refine zh rfl (af rfl rfl er) (by simp) ?_
  refine zk 6 rfl (zl rfl (s.bZ (k:=0) rfl cg bA) (zc rfl (Pf I (s.ae [1]) (bz _ _) hp) ?_))
  rintro r h' ⟨rfl,s⟩
  have s:=s.ae [1,0]
  dsimp only [bf,bringA,getA] at s
  rw [hn]
  refine zm rfl (zo rfl (aT rfl rfl rfl (bO aV (s.aU (k:=3) rfl hY))) (zb rfl (by exact bg (aB (by omega) (by omega))) ?_))
  refine zh rfl (af rfl rfl aK) (by simp; omega) ?_
  refine za rfl (zv (zj rfl (WP.skip (zw (zg rfl (zl rfl (by exact s.bZ (k:=0) rfl cg bA) ?_))))))
  refine zc rfl (Ss I s (k:=1) rfl (bz _ _) hp) ?_
  rintro r h' ⟨rfl,s⟩
  rw [hn]
  refine zm rfl (zo rfl (aT rfl rfl rfl (bO aV (s.aU (k:=3) rfl hY))) (zb rfl (by exact bg (aB (by omega) (by omega))) ?_))
  refine zh rfl (af rfl rfl aK) (by simp; omega) ?_
  refine zv (zj rfl (WP.skip (zg rfl (zl rfl (by exact s.bZ (k:=0) rfl cg bA) ?_))))
  refine zc rfl (kL I s (k:=1) rfl (bz _ _) hl) ?_
  rintro r h' ⟨rfl,s⟩
  rw [J,hn]
  refine zk 3 rfl ?_
  have q1:((26:Int)+4*((n:Int)+1)).toNat=30+4*n:=by omega
  have q2:((26:Int)+4*(n:Int)).toNat=26+4*n:=by omega
  have s0:=s
  refine WP.drawn [ai,ai,ai,ai,ai,ai,ai,ai,ai,ai,ai,ai,ai,ai,ai,ai,ai,ai,ai,ai,ai] rfl (by kernel_rfl) (by kernel_rfl) ?_
  refine zF rfl (gC _ _) (zL rfl (s.ld (k:=0) rfl cS rfl) (zM rfl (zO rfl (af rfl rfl (by exact bg (aB (by omega) (by omega)))) ?_)))
  refine zO rfl (af rfl rfl (by exact jB (aB (by omega) (by omega)))) ?_
  refine zO rfl (af rfl rfl (by exact bg (aB (by omega) (by omega)))) ?_
  refine zM rfl (zO rfl (af rfl rfl (by exact bg (aB (by omega) (by omega)))) ?_)
  refine zO rfl (af rfl rfl (by exact jB (aB (by omega) (by omega)))) ?_
  refine zO rfl (af rfl rfl (by exact bg (aB (by omega) (by omega)))) ?_
  refine zO rfl (c_ (p:=some (.int .i64 (26+4*((n:Int)+1)))) (q:=some (.int .i64 (26+4*((n:Int)+1)))) (m:=none) (p':=some (30+4*n)) (q':=some (30+4*n)) (m':=none) rfl rfl rfl rfl (by rw [dU (by omega),q1]) (by rw [dU (by omega),q1]) rfl (fW (s.buf (k:=1) rfl).view (aD _) (by omega)).1) ?_
  refine zF rfl (gC _ _) (zL rfl (s.ld (k:=0) rfl cS rfl) (zM rfl (zO rfl (af rfl rfl (by exact jB (aB (by omega) (by omega)))) ?_)))
  refine zO rfl (af rfl rfl (by exact bg (aB (by omega) (by omega)))) ?_
  refine zM rfl (zO rfl (af rfl rfl (by exact jB (aB (by omega) (by omega)))) ?_)
  refine zO rfl (af rfl rfl (by exact bg (aB (by omega) (by omega)))) ?_
  refine zO rfl (c_ (p:=some (.int .i64 (26+4*(n:Int)))) (q:=some (.int .i64 (26+4*(n:Int)))) (m:=none) (p':=some (26+4*n)) (q':=some (26+4*n)) (m':=none) rfl rfl rfl rfl (by rw [dU (by omega),q2]) (by rw [dU (by omega),q2]) rfl (fW (s.buf (k:=1) rfl).view (aD _) (by omega)).1) ?_
  refine aA.any rfl rfl rfl rfl (OpR.Wk rfl (s.ae [1]) rfl rfl rfl rfl (by omega) (by omega) (by omega)) ?_
  intro r h s
  have s:=s.ae [1,0]
  refine aA.nil ⟨⟨aa,aa,aa,aa,aa,aa,aa,aa,aa,aa,aa,aa,aa,aa,aa,aa,aa,aa,aa,aa,aa,aa⟩,?_⟩
  refine zg rfl (zl rfl (s.bZ (k:=0) rfl cg bA) (zm rfl (zb rfl (by exact bg (aB (by omega) (by omega))) ?_)))
  refine zo rfl (b9 rfl (by exact ji bI cG (ff (by omega) (by omega)))) ?_
  have en:(n:Int)+1=((n+1:Nat):Int):=by omega
  rw [en]
  refine zc rfl (oX (a:=14) (z:=2) (n:=n+1) I (s.ae [1]) (by decide) (by decide) (by omega) (by omega)) ?_
  rintro r h ⟨rfl,s⟩
  have s:=s.ae [1,0]
  refine zk 3 rfl (zl rfl (s.bZ (k:=0) rfl cg bA) (zk 2 rfl (zc rfl (Pg (i:=n) (lo:=lo) I (s.ae [1,2]) hY l1 (by omega) jQ (by omega)) ?_)))
  rintro r h ⟨rfl,s⟩
  have s:=s.ae [2,0,1,0]
  refine zk 3 rfl (zf rfl (gC _ _) (zl rfl (s.ld (k:=0) rfl cS rfl) (zk 3 rfl (WP.ret ⟨aa,_,rfl,?_⟩))))
  subst hn
  exact ⟨_,_,rfl,hp.ins hf nA,s.drop⟩
 ·rw [hp.good] at hg; cases hg
theorem Dj (hT:W told){i:Nat}(s:Sat h (X::Y::S))(hX:c8 X (c9 v b))(hY:c8 Y (c9 x c'))(J:dP b kd link extra cs)(hc:cs[i]?=some c)(QM:c'.length=c.length):
  Call ⟨Tryz.prog,told⟩ 110 [v,.int .i64 (i:Int),x] h fun r h'=>∃u b',r=.aY [u,.int .i64 0]∧dP b' kd link extra (cs.set i c')∧Sat h' (aZ u b'::X::Y::S):=by
 have hl:=J.len
 have p_:=J.low
 have fS:=J.fits
 have hi:=(List.getElem?_eq_some_iff.1 hc).1
 have Ax:=m5 (cs:=cs) (i:=i+1)
 have ML:=m4 hc
 have I:=J.rep hc QM
 obtain ⟨s1,s2,s3⟩:=J.slot i c hc
 generalize hf:c7 b i=f at s1 s3 I
 have l1:(bk b f c').length=512:=by rw [cI (by omega),hl]
 refine Call.of_wp (hT.free _ rfl) Tryz.func110 rfl rfl (zK 8 rfl (zc rfl (tZ hT s hX (by omega)) ?_))
 rintro r h' (⟨hg,u,rfl,s⟩ | ⟨hg,rfl,s⟩)
 ·obtain ⟨sZ,_,cap,_,rfl,_⟩:=s.fB (by omega)
  refine zk 3 rfl ?_
  refine az.cz s rfl rfl rfl (cy jC) (fun p8 h s => ?_)
  dsimp only [V.cells,List.length_cons,List.length_nil,Nat.reduceAdd] at s
  refine zS rfl (s.eZ (j:=0) rfl bA rfl rfl) (fun h s => ?_)
  dsimp only [setA] at s
  refine zk 3 rfl (WP.block (zK 3 rfl (zh rfl (af rfl rfl aG) (rfl) (zk 6 rfl (zh rfl (af rfl rfl aK) (by simp) ?_)))))
  refine zk 2 rfl (zl rfl (s.bZ (k:=0) rfl cg bA) (zc rfl (kL hT s (k:=1) rfl (bz _ _) hl) ?_))
  rintro r h' ⟨rfl,s⟩
  rw [J.c6]
  refine zh rfl (af rfl rfl jq) (by simp; omega) ?_
  refine zk 2 rfl (zv (zj rfl (WP.skip (zg rfl (zl rfl (by exact s.bZ (k:=0) rfl cg bA) ?_)))))
  refine zm rfl (zc rfl (zV (i:=i) hT s (k:=1) rfl (bz _ _) hl (by omega)) ?_)
  rintro r h' ⟨rfl,s⟩
  rw [hf,s2]
  refine zk 10 rfl (zo rfl (aT rfl rfl rfl (bO aV (s.aU (k:=3) rfl hY))) (zm rfl (zt rfl (af rfl rfl Ft) (by simp; omega) ?_)))
  refine zk 4 rfl (zf rfl (gC _ _) (zl rfl (s.ld (k:=0) rfl cS rfl) (zm rfl ?_)))
  have ku:=cD (s.aU (k:=1) rfl (bz _ _)) (a:=f) (by omega)
  refine zo rfl (c_ (p:=some (.int .i64 (f:Int))) (q:=none) (m:=none) (p':=some f) (q':=none) (m':=none) rfl rfl rfl rfl (by rw [dU (by omega)]; rfl) rfl rfl ku.1) ?_
  refine zm rfl (az.any rfl rfl rfl (OpR.QN rfl (s.ae [1,2]) hY rfl rfl rfl rfl (by omega) (aD _) (by omega)) ?_)
  intro r h s
  rw [fq (by omega)] at s
  have s:=s.ae [2,0,1,0]
  refine zk 3 rfl (zl rfl (s.bZ (k:=0) rfl cg bA) (zk 3 rfl (zo rfl (aT rfl rfl rfl (bO aV (s.aU (k:=3) rfl hY))) (zc rfl (B6 (i:=i) (f:=f) (z:=c'.length) hT (s.ae [1]) l1 (by omega) (by omega) (by omega)) ?_))))
  rintro r h ⟨rfl,s⟩
  have s:=s.ae [1,0]
  exact zk 3 rfl (zf rfl (gC _ _) (zl rfl (s.ld (k:=0) rfl cS rfl) (zk 3 rfl (WP.ret ⟨aa,_,rfl,_,_,rfl,I,s.drop⟩))))
 ·rw [J.good] at hg; cases hg
theorem Kr (hT:W told){c0 c1:List Nat}(s:Sat h (X::S))(hX:c8 X (c9 v b))(hp:dP b kd link extra [c0,c1]):
  Call ⟨Tryz.prog,told⟩ 140 [v] h fun r h'=>∃w u0 u1,r=.aY [w,.int .i64 0]∧Sat h' (.arr 1 w [u0,u1]::aZ u0 c0::aZ u1 c1::X::S):=by
 have hl:=hp.len
 have hv:=s.aU (k:=0) rfl hX
 have fS:=hp.fits
 simp only [tot,aH,bM] at fS
 obtain ⟨pi,po,pc,rfl⟩:=iu hv (by omega)
 obtain ⟨i1,jk,iE,tY⟩:=Pk
 refine Call.of_wp (hT.free _ rfl) Tryz.func140 rfl rfl (zK 8 rfl (zc rfl (td hT s hX (by omega)) ?_))
 rintro r h' ⟨s,(⟨hg,rfl⟩ | ⟨hg,rfl⟩)⟩
 ·refine az.op rfl rfl rfl (bF rfl) ?_
  refine zk 2 rfl ?_
  refine az.cz s rfl rfl rfl (cy jC) (fun p4 h s => ?_)
  dsimp only [V.cells,List.length_cons,List.length_nil,Nat.reduceAdd] at s
  refine zS rfl (s.eZ (j:=0) rfl bA rfl rfl) (fun h s => ?_)
  dsimp only [setA] at s
  refine zk 6 rfl (zh rfl (af rfl rfl aG) (rfl) (zk 5 rfl (zl rfl (s.bZ (k:=0) rfl cg bA) (zc rfl (kL hT s (k:=1) rfl hX hl) ?_))))
  rintro r h' ⟨rfl,s⟩
  rw [show j7 b=2 from hp.c6]
  obtain ⟨wv,h1,e3,s1⟩:=qy (P:=Tryz.prog) s gZ jk qR iE (by omega) rfl (by decide) (by decide) (n:=0) (c:=2) (by decide) (by decide)
  refine az.any rfl rfl rfl (OpR.of (R:=fun v h'=>v=wv∧h'=h1) (ry rfl rfl e3) ⟨rfl,rfl⟩) ?_
  rintro w0 h ⟨rfl,rfl⟩
  have s:Sat h (.arr 1 w0 []::_):=s1
  have s:=s.ae [1,1,0]
  dsimp only [bringA,getA,bf] at s
  refine zk 5 rfl (zl rfl (s.bZ (k:=0) rfl cg bA) (zc rfl (kL hT s (k:=1) rfl hX hl) ?_))
  rintro r h' ⟨rfl,s⟩
  rw [show j7 b=2 from hp.c6]
  refine zk 2 rfl (WP.block (WP.loop (zg rfl (zt rfl (af rfl rfl aK) (by decide) ?_))))
  refine zk 5 rfl (WP.block (zK 7 rfl (zl rfl (s.bZ (k:=0) rfl cg bA) (zm rfl (zc rfl (Di (i:=0) (c:=c0) hT s (k:=1) rfl hX hp rfl) ?_)))))
  rintro r h' ⟨f,rfl,hr,s⟩
  refine zc rfl (yu hT (s.ae [1]) hr (by omega)) ?_
  intro u0 h s
  have I:=(s.buf (k:=0) rfl).view.cells
  have s:=s.ae [3]
  dsimp only [bf,bringA,getA] at s
  obtain ⟨iv,h1,tj,s1⟩:=lE (P:=Tryz.prog) (k:=1) (x:=u0) s gZ qR jT rfl (by decide) (by decide) (by rw [I.1]; rfl) (by rw [I.1]; simp only [gU,k_,I.2]; rfl)
  rw [I.1] at s1
  refine az.any rfl rfl rfl (OpR.of (R:=fun v h'=>v=iv∧h'=h1) (mD rfl tj) ⟨rfl,rfl⟩) ?_
  rintro v' h' ⟨rfl,rfl⟩
  obtain ⟨av,h2,qF,s2⟩:=g_ (s1.ae [1,0]) gZ jk qR iE (by omega) rfl (by decide) (by simp)
  dsimp only [List.nil_append,bf,bringA] at s2
  refine az.any rfl rfl rfl (OpR.of (R:=fun v h'=>v=av∧h'=h2) (mH rfl rfl qF) ⟨rfl,rfl⟩) ?_
  rintro v' h ⟨rfl,rfl⟩
  have s:=(s2.del 1).ae [3,2,0,0]
  dsimp only [bf,bringA,getA] at s
  refine za rfl (zv (zr rfl (zb rfl (by exact bg (aB (by omega) (by omega))) ?_)))
  refine zm rfl (zv (WP.loop (zg rfl (zt rfl (af rfl rfl aK) (by decide) ?_))))
  refine zk 5 rfl (WP.block (zK 7 rfl (zl rfl (s.bZ (k:=0) rfl cg bA) (zm rfl (zc rfl (Di (i:=1) (c:=c1) hT s (k:=1) rfl hX hp rfl) ?_)))))
  rintro r h' ⟨f1,rfl,Aq,s⟩
  refine zc rfl (yu hT (s.ae [1]) Aq (by omega)) ?_
  intro u1 h s
  have J:=(s.buf (k:=0) rfl).view.cells
  have s:=s.ae [3]
  dsimp only [bf,bringA,getA] at s
  obtain ⟨iv1,h1,tj,s1⟩:=lE (P:=Tryz.prog) (k:=1) (x:=u1) s gZ qR jT rfl (by decide) (by decide) (by rw [J.1]; rfl) (by rw [J.1]; simp only [gU,k_,J.2]; rfl)
  rw [J.1] at s1
  refine az.any rfl rfl rfl (OpR.of (R:=fun v h'=>v=iv1∧h'=h1) (mD rfl tj) ⟨rfl,rfl⟩) ?_
  rintro v' h' ⟨rfl,rfl⟩
  obtain ⟨av1,h2,qF,s2⟩:=g_ (s1.ae [1,0]) gZ jk qR iE (by omega) rfl (by decide) (by simp)
  dsimp only [List.cons_append,List.nil_append,bf,bringA] at s2
  refine az.any rfl rfl rfl (OpR.of (R:=fun v h'=>v=av1∧h'=h2) (mH rfl rfl qF) ⟨rfl,rfl⟩) ?_
  rintro v' h ⟨rfl,rfl⟩
  have s:=(s2.del 1).ae [3,2,0,1,0]
  dsimp only [bf,bringA,getA] at s
  refine za rfl (zv (zr rfl (zb rfl (by exact bg (aB (by omega) (by omega))) ?_)))
  refine zm rfl (zv (WP.loop (zg rfl (zh rfl (af rfl rfl aK) (by decide) ?_))))
  exact zk 3 rfl (WP.exit (zK 6 rfl (WP.ret ⟨aa,_,rfl,_,_,_,rfl,(s.ae [2,2,2,1]).del 4⟩)))
 ·rw [hp.good] at hg; cases hg
end
def Sm (N:Nat)(ε ε':aE): Prop:=(∀m,pgA ε' m=pgA ε m)∧∀P:VP,qT N P→vw P ε→vw P ε'
theorem Sm.refl (N:Nat)(ε:aE): Sm N ε ε:=⟨fun _=>rfl,fun _ _ h=>h⟩
theorem Sm.trans {N:Nat}{a b c:aE}(h:Sm N a b)(g:Sm N b c): Sm N a c:=⟨fun m=>(g.1 m).trans (h.1 m),fun P I hv=>g.2 P I (h.2 P I hv)⟩
structure qN (told : cZ) (N B : Nat) (rv : V) (A : aE → au) (pg : aE → Int → List Nat) : Prop where
 iface : ∃ ty u f, rv = .iface ty u ∧ methV Tryz.prog ty "Read" = some f ∧ ∀ {h : H} {S : List au} {ε : aE} {n : Int}, EI N B ε → 0 ≤ n → n < N → Sat h (A ε :: S) →
  Call ⟨Tryz.prog, told⟩ f [u, .int .i64 n] h fun v h' => ∃ w ε', v = .aY [w, .int .i64 0] ∧ EI N B ε' ∧ Sm N ε ε' ∧ Sat h' (aZ w (pg ε n) :: A ε' :: S)
 same : ∀ {ε ε' : aE}, Sm N ε ε' → ∀ m, pg ε' m = pg ε m
section
variable {P:Program} {h:H} {S:List au} {k id off i:Nat} {v c:V} {cs:List V} {t te t':TypeId}
theorem Sat.yw (s:Sat h S)(hk:getA S k=some (.arr 1 v cs))(hi:cs[i]?=some c)(hu:P.underlying t=some (.slice te))(I:bq P te=some 1)(e:indexAddrV P t v (.int .i64 (i:Int))=some (.ptr id off))(ha:b8 P t'=some false): loadV P h t' (.ptr id off)=some c:=by
 obtain ⟨J,off',e1,e2⟩:=fY s hk hi hu I
 rw [e] at e1
 have e3:V.ptr id off=V.ptr J off':=bB e1
 rw [e3]; exact e2 _ ha
theorem Sw {E:List (Nat×V)}{s d:TypeId}{x:Operand}{v r:V}{h₁:H}(I:lookO E x=some v)(J:convV P h s d v=none)(h2:convB P h s d v=some (r,h₁)): opE P E h (.convert s d x)=some (r,h₁):=by
 simp only [opE,ju,I,J,h2]
end
def eS : List Nat:=[109,117,110,105,109,101,110,116]
theorem Pm {h:H}: buildSliceV Tryz.prog h 28 8 [(0,.int .u8 109),(1,.int .u8 117),(2,.int .u8 110),(3,.int .u8 105),(4,.int .u8 109),(5,.int .u8 101),(6,.int .u8 110),(7,.int .u8 116)]=some (.sl h.next 0 8 (.exact 8),newRow h (ofBytes eS)):=by
 simp only [buildSliceV,aV,eR,sQ,V.cells]
 rfl
theorem z6 {P:Program}{h:H}{t:TypeId}{x y:Operand}{a b:Nat}(J:0<b)(hw:a<9223372036854775808): binV P h .quo t x y (.int .i64 (a:Int)) (.int .i64 (b:Int))=some (.int .i64 ((a/b:Nat):Int)):=by
 simp only [binV,ikBeq,ag,intV]
 have:intBeq (b:Int) 0=false:=by rw [lR]; simp; omega
 have I:a/b≤a:=Cr a b
 rw [this,ay,HT (by omega),←Int.natCast_ediv]
 generalize a/b=q at I ⊢
 rw [aB (by omega) (by omega)]
section
variable {told:cZ} {h:H} {S:List au} {X Y:au} {N B n:Nat} {v x y rv:V} {b l c R M:List Nat} {kd link extra:Nat} {cs:List (List Nat)} {A:aE→au} {pg:aE→Int→List Nat} {ε:aE}
theorem Gr (J:W told)(s:Sat h S): Call ⟨Tryz.prog,told⟩ 74 [] h fun r h'=>Sat h' (.c5 r eS::S):=by
 refine Call.of_wp (J.free _ rfl) Tryz.func74 rfl rfl (zK 6 rfl (az.any rfl rfl rfl (OpR.of (R:=fun v h'=>v=.sl h.next 0 8 (.exact 8)∧h'=newRow h (ofBytes eS)) (mD rfl Pm) ⟨rfl,rfl⟩) ?_))
 rintro v I ⟨rfl,rfl⟩
 have s1:Sat (newRow h (ofBytes eS)) (pt h.next (.cells 8 (ofBytes eS) false)::S):=s.new _
 generalize newRow h (ofBytes eS)=I at s1
 generalize h.next=id at s1
 have hg:=s1.row (k:=0) rfl
 have e1:convB Tryz.prog I 28 28 (.sl id 0 8 (.exact 8))=some (.sl id 0 8 (.exact 8),I.put id (some (.cells 8 (ofBytes eS) true))):=by
  simp only [convB,aV,Tryz.underlying5,hg]
  rfl
 have e0:convV Tryz.prog I 28 28 (.sl id 0 8 (.exact 8))=none:=by
  simp only [convV,aV]
 have s2:Sat (I.put id (some (.cells 8 (ofBytes eS) true))) (pt id (.cells 8 (ofBytes eS) true)::S):=s1.put (k:=0) rfl
 have s3:Sat (I.put id (some (.cells 8 (ofBytes eS) true))) (.c5 (.sl id 0 8 (.exact 8)) eS::S):=s2.freeze.iU (B:=.c5 (.sl id 0 8 (.exact 8)) eS) fun m r hm=>⟨by decide,.inr ⟨id,0,.exact 8,8,_,true,rfl,hm,rfl,by decide,rfl,by decide⟩⟩
 refine az.any rfl rfl rfl (OpR.of (R:=fun v h'=>v=.sl id 0 8 (.exact 8)∧h'=I.put id (some (.cells 8 (ofBytes eS) true))) (Sw rfl e0 e1) ⟨rfl,rfl⟩) ?_
 rintro v h2 ⟨rfl,rfl⟩
 exact zk 2 rfl (WP.ret ⟨aa,_,rfl,s3⟩)
theorem MO (J:W told)(hx:View h x l)(hy:View h y c): Call ⟨Tryz.prog,told⟩ 141 [x,y] h fun r h'=>r=.bool (decide (l=c))∧h'=h:=by
 refine Call.of_wp (J.free _ rfl) Tryz.func141 rfl rfl (zK 7 rfl (zo rfl (b9 rfl (B3 hx)) (zm rfl (zo rfl (b9 rfl (B3 hy)) ?_))))
 by_cases I:l=c
 ·skip
  exact zt rfl (af rfl rfl JH) (decide_eq_true I) (zk 2 rfl (WP.ret ⟨aa,_,rfl,by rw [dX I],rfl⟩))
 ·skip
  exact zh rfl (af rfl rfl JH) (decide_eq_false I) (zk 2 rfl (WP.ret ⟨aa,_,rfl,by rw [eA I],rfl⟩))
theorem tD (I:W told)(J:1≤n)(h2:n≤3000): Call ⟨Tryz.prog,told⟩ 54 [.int .i64 (n:Int)] h fun r h'=>r=.int .i64 2∧h'=h:=by
 have e:(n+2999)/3000=1:=by omega
 refine Call.of_wp (I.free _ rfl) Tryz.func54 rfl rfl (zK 7 rfl (zb rfl (by exact bg (aB (by omega) (by omega))) ?_))
 refine zb rfl (by exact iB (aB (by omega) (by omega))) ?_
 refine zo rfl (af (r:=.int .i64 (((n+2999)/3000:Nat):Int)) rfl rfl (by rw [show (n:Int)+3000-1=((n+2999:Nat):Int) by omega]; exact z6 (by decide) (by omega))) ?_
 rw [e]
 refine zb rfl (by exact bg (aB (by omega) (by omega))) ?_
 exact zk 2 rfl (WP.ret ⟨aa,_,rfl,rfl,rfl⟩)
theorem Gs (hT:W told)(hR:qN told N B rv A pg)(fF:EI N B ε)(hN:1≤N)(hp:dP (pg ε 0) 201 n extra [eS,R])(j0:R.length=64)(s:Sat h (A ε::S)):
  Call ⟨Tryz.prog,told⟩ 91 [rv] h fun v h'=>∃u ε',v=.aY [u,.int .i64 (n:Int),.bool true,.int .i64 0]∧EI N B ε'∧Sm N ε ε'∧Sat h' (aZ u R::A ε'::S):=by
 obtain ⟨ty,u,f,rfl,hm,iT⟩:=hR.iface
 refine Call.of_wp (hT.free _ rfl) Tryz.func91 rfl rfl (zK 10 rfl (az.any rfl rfl rfl (OpR.invoke rfl rfl rfl hm rfl (iT fF (by decide) (by omega) s)) ?_))
 rintro v h ⟨u,ε',rfl,IM,hs,s⟩
 refine zk 10 rfl (zh rfl (af rfl rfl aG) (rfl) (zk 6 rfl (zc rfl (Kr hT s (bz _ _) hp) ?_)))
 rintro v h ⟨w,u0,u1,rfl,s⟩
 obtain ⟨XC,I,g1,g2⟩:=fY (P:=Tryz.prog) s (k:=0) (i:=0) (c:=u0) rfl rfl gZ jT
 obtain ⟨XD,J,g3,g4⟩:=fY (P:=Tryz.prog) s (k:=0) (i:=1) (c:=u1) rfl rfl gZ jT
 have hbw:=(s.lD (j:=0) rfl).2.2
 have u9:=gY (s.buf (k:=1) rfl).view
 refine zk 8 rfl ?_
 have s0:=s
 refine WP.drawn [ai,ai,ai,ai,ai,ai,ai,ai,some (0,2),some (0,2),some (0,2),ai,ai,ai,ai,ai,ai,ai,ai,ai,ai,ai] rfl (by kernel_rfl) (by kernel_rfl) ?_
 refine zM rfl (aA.lK rfl rfl rfl rfl (af rfl rfl aG) (by decide) ?_)
 refine zM rfl (zM rfl (zO rfl (aT rfl rfl rfl (s.eY (n:=2) (j:=0) rfl rfl (by decide) gZ)) ?_))
 refine aA.lK rfl rfl rfl rfl (af rfl rfl aG) (by decide) ?_
 refine zO rfl (fU rfl rfl) (zM rfl (zM rfl (zO rfl (cn (r:=.ptr XC I) rfl rfl g1) (zL rfl (s.yw (k:=0) (i:=0) rfl rfl gZ jT g1 cS) (aA.any rfl rfl rfl rfl (OpR.call rfl rfl rfl rfl (Gr hT s)) ?_)))))
 intro mv h s
 have s:=s.ae [1,1,1,1,1,0]
 have s1:=s
 refine aA.any rfl rfl rfl rfl (OpR.call rfl rfl rfl rfl (MO hT (s.buf (k:=1) rfl).view (s.aU (k:=5) rfl (fe _ _)))) ?_
 rintro r h' ⟨rfl,rfl⟩
 rw [show decide (eS=eS)=true from dX rfl]
 refine zO rfl (cX rfl rfl) (zO rfl (fU rfl rfl) (zM rfl (zM rfl (zO rfl (cn (r:=.ptr XD J) rfl rfl g3) (zL rfl (s.yw (k:=0) (i:=1) rfl rfl gZ jT g3 cS) (zO rfl (aT rfl rfl rfl (bO aV (s.aU (k:=2) rfl (bz _ _)))) ?_))))))
 rw [j0]
 refine aA.lK rfl rfl rfl rfl (af rfl rfl aG) (by decide) ?_
 refine zO rfl (fU rfl rfl) ?_
 refine aA.nil ⟨⟨aa,aa,aa,aa,aa,aa,aa,aa,fun _ _=>.inr ⟨rfl,⟨_,bF rfl⟩,hbw⟩,fun _ _=>.inr ⟨rfl,⟨_,cn (r:=.ptr XC I) rfl rfl g1⟩,aS _ rfl⟩,dB (.inr ⟨rfl,⟨_,aR rfl (s0.yw (k:=0) (i:=0) rfl rfl gZ jT g1 cS)⟩,u9⟩) (.inr ⟨rfl,⟨_,aR rfl (s1.yw (k:=0) (i:=0) rfl rfl gZ jT g1 cS)⟩,u9⟩),aa,aa,aa,aa,aa,aa,aa,aa,aa,aa,aa,aa⟩,?_⟩
 refine zK 5 rfl ?_
 have Du:=hp.len
 refine zc rfl (ID hT (s.ae [3]) (bz _ _) (by omega)) ?_
 rintro v h ⟨s,(⟨hg,rfl⟩ | ⟨hg,rfl⟩)⟩
 ·rw [show (pg ε 0).getD 12 0=201 from hp.kind,show cT (pg ε 0) 18 4=n from hp.link]
  have s:=s.ae [1,1,1,1,0]
  refine zk 16 rfl (zh rfl (af rfl rfl aG) (by decide) ?_)
  exact zk 6 rfl (zo rfl (cn (r:=.ptr XD J) rfl rfl g3) (zl rfl (s.yw (k:=0) (i:=1) rfl rfl gZ jT g3 cS) (zk 6 rfl (WP.ret ⟨aa,_,rfl,_,ε',rfl,IM,hs,(((((s.ae [2,2]).del 5).del 4).del 3).del 2)⟩))))
 ·rw [hp.good] at hg; cases hg
theorem oH (hT:W told)(hR:qN told N B rv A pg)(J:EI N B ε)(hN:1≤N)(hp:dP (pg ε 0) 201 n extra [eS,R])(j0:R.length=64)(s:Sat h (A ε::S)):
  Call ⟨Tryz.prog,told⟩ 53 [rv] h fun v h'=>∃u ε',v=.aY [u,.int .i64 (n:Int),.int .i64 0]∧EI N B ε'∧Sm N ε ε'∧Sat h' (aZ u R::A ε'::S):=by
 refine Call.of_wp (hT.free _ rfl) Tryz.func53 rfl rfl (zK 9 rfl (zc rfl (Gs hT hR J hN hp j0 s) ?_))
 rintro v h ⟨u,ε',rfl,I,hs,s⟩
 refine zk 9 rfl (zv (zw (WP.block (zg rfl (zm rfl (zh rfl (af rfl rfl aG) (rfl) (za rfl (zv (zj rfl (zg rfl (zm rfl (zo rfl (cX rfl rfl) (za rfl (zv (zj rfl (WP.skip (zg rfl (zk 5 rfl (zv ?_)))))))))))))))))))
 refine WP.ret ⟨aa,_,rfl,?_⟩
 exact ⟨u,ε',rfl,I,hs,s⟩
theorem Gt (hT:W told)(hR:qN told N B rv A pg)(J:EI N B ε)(hN:1≤N)(hp:dP (pg ε 0) 201 n extra [eS,R])(j0:R.length=64)(s:Sat h (A ε::S)):
  Call ⟨Tryz.prog,told⟩ 37 [rv] h fun v h'=>∃ε',v=.aY [.bool true,.int .i64 0]∧EI N B ε'∧Sm N ε ε'∧Sat h' (A ε'::S):=by
 refine Call.of_wp (hT.free _ rfl) Tryz.func37 rfl rfl (zK 8 rfl (zc rfl (Gs hT hR J hN hp j0 s) ?_))
 rintro v h ⟨u,ε',rfl,I,hs,s⟩
 exact zk 17 rfl (WP.ret ⟨aa,_,rfl,ε',rfl,I,hs,s.drop⟩)
theorem Sx (J:W told)(hR:qN told N B rv A pg)(fF:EI N B ε)(hN:1≤N)(hp:dP (pg ε 0) 201 n extra [eS,R])(j0:R.length=64)(h1:1≤n)(h2:n≤3000)(s:Sat h (A ε::S)):
  Call ⟨Tryz.prog,told⟩ 66 [rv] h fun v h'=>∃ε',v=.aY [.int .i64 2,.int .i64 0]∧EI N B ε'∧Sm N ε ε'∧Sat h' (A ε'::S):=by
 refine Call.of_wp (J.free _ rfl) Tryz.func66 rfl rfl (zK 8 rfl (zc rfl (oH J hR fF hN hp j0 s) ?_))
 rintro v h ⟨u,ε',rfl,I,hs,s⟩
 refine zk 12 rfl (zh rfl (af rfl rfl aG) (rfl) (zk 6 rfl (zc rfl (tD J h1 h2) ?_)))
 rintro v h' ⟨rfl,rfl⟩
 exact zk 3 rfl (WP.ret ⟨aa,_,rfl,ε',rfl,I,hs,s.drop⟩)
theorem qh (hT:W told)(hR:qN told N B rv A pg)(J:EI N B ε)(hN:2≤N)(hp:dP (pg ε 1) kd link extra [M])(hM:M.length=375)(s:Sat h (A ε::S)):
  Call ⟨Tryz.prog,told⟩ 55 [rv,.int .i64 0] h fun v h'=>∃w u ε',v=.aY [w,u,.int .i64 0]∧EI N B ε'∧Sm N ε ε'∧Sat h' (aZ u M::aZ w (pg ε 1)::A ε'::S):=by
 obtain ⟨ty,u,f,rfl,hm,iT⟩:=hR.iface
 refine Call.of_wp (hT.free _ rfl) Tryz.func55 rfl rfl (zK 11 rfl (zb rfl (by exact bg (aB (by omega) (by omega))) ?_))
 refine az.any rfl rfl rfl (OpR.invoke rfl rfl rfl hm rfl (iT (n:=1) J (by decide) (by omega) s)) ?_
 rintro v h ⟨w,ε',rfl,I,hs,s⟩
 refine zk 9 rfl (zh rfl (af rfl rfl aG) (rfl) (zk 6 rfl (zc rfl (Pj (i:=0) hT s (bz _ _) hp rfl) ?_)))
 rintro v h ⟨u,rfl,s⟩
 refine zk 10 rfl (zh rfl (af rfl rfl aG) (rfl) (zk 2 rfl (zo rfl (aT rfl rfl rfl (bO aV (s.aU (k:=0) rfl (bz _ _)))) ?_)))
 rw [hM]
 refine zh rfl (af rfl rfl aG) (by decide) ?_
 exact zk 12 rfl (WP.ret ⟨aa,_,rfl,w,u,ε',rfl,I,hs,s⟩)
theorem Sy (J:W told)(hR:qN told N B rv A pg)(fF:EI N B ε)(hN:1≤N)(hp:dP (pg ε 0) 201 n extra [eS,R])(j0:R.length=64){i:Int}(Xc : -1≤i)(jk:i≤16)(s:Sat h (A ε::S)):
  Call ⟨Tryz.prog,told⟩ 69 [rv,.int .i64 i] h fun v h'=>∃ε',v=(if 0≤i∧i<16 then .aY [.int .i64 (cT R (4*i.toNat) 4:Nat),.int .i64 0] else .aY [.int .i64 0,.int .i64 1])∧EI N B ε'∧Sm N ε ε'∧Sat h' (A ε'::S):=by
 refine Call.of_wp (J.free _ rfl) Tryz.func69 rfl rfl (zK 8 rfl (zc rfl (oH J hR fF hN hp j0 s) ?_))
 rintro v h ⟨u,ε',rfl,I,hs,s⟩
 refine zk 9 rfl (WP.block (zK 3 rfl (zh rfl (af rfl rfl aG) (rfl) (zk 6 rfl ?_))))
 by_cases h0:i<0
 ·skip
  refine zt rfl (af rfl rfl aK) (by simp; omega) ?_
  exact zk 12 rfl (WP.ret ⟨aa,_,rfl,ε',by rw [ah (by omega)],I,hs,s.drop⟩)
 ·skip
  refine zh rfl (af rfl rfl aK) (by simp; omega) ?_
  refine zk 2 rfl ?_
  by_cases h1:16≤i
  ·skip
   refine zt rfl (af rfl rfl jq) (by simp; omega) ?_
   exact zk 9 rfl (WP.ret ⟨aa,_,rfl,ε',by rw [ah (by omega)],I,hs,s.drop⟩)
  ·skip
   refine zh rfl (af rfl rfl jq) (by simp; omega) ?_
   refine zk 2 rfl (zv (zj rfl (WP.skip (zg rfl (zk 2 rfl (zb rfl (by exact jB (aB (by omega) (by omega))) ?_))))))
   refine zm rfl (zb rfl (by exact bg (aB (by omega) (by omega))) ?_)
   refine zb rfl (by exact jB (aB (by omega) (by omega))) ?_
   obtain ⟨k,rfl⟩:∃k:Nat,i=k:=⟨i.toNat,by omega⟩
   have hv:=(s.buf (k:=0) rfl).view
   have q1:(4*(k:Int)).toNat=4*k:=by omega
   have q2:(4*((k:Int)+1)).toNat=4*k+4:=by omega
   refine zo rfl (c_ (p:=some (.int .i64 (4*(k:Int)))) (q:=some (.int .i64 (4*((k:Int)+1)))) (m:=none) (p':=some (4*k)) (q':=some (4*k+4)) (m':=none) rfl rfl rfl rfl (by rw [dU (by omega),q1]) (by rw [dU (by omega),q2]) rfl (fW hv (by omega) (by omega)).1) ?_
   refine zc rfl (C3 J s (k:=0) rfl (vY (bz _ _) (a:=4*k) (b:=4*k+4) (by omega) (by omega)) (by simp; omega)) ?_
   rintro v h' ⟨rfl,rfl⟩
   have bC:=xQ (a:=4*k) (z:=4) hv.1
   have ea:leN ((R.take (4*k+4)).drop (4*k))=cT R (4*k) 4:=rfl
   rw [ea]
   refine zo rfl (b9 rfl (by exact ji cG bI (aB (by omega) (by omega)))) ?_
   exact zk 3 rfl (WP.ret ⟨aa,_,rfl,ε',by rw [aq (by omega)]; rfl,I,hs,s.drop⟩)
end
def bt (M:List Nat)(i:Nat): Bool:=(M.getD (i/8) 0).testBit (i%8)
def B7 (M:List Nat)(i:Nat): List Nat:=M.set (i/8) (Nat.lor (M.getD (i/8) 0) (2^(i%8)))
def D3 (M:List Nat)(i:Nat): List Nat:=M.set (i/8) (Nat.land (M.getD (i/8) 0) (255-2^(i%8)))
theorem Gu {M:List Nat}{i j b:Nat}(hi:i<M.length): (M.set i b).getD j 0=if i=j then b else M.getD j 0:=by
 rw [dL,yM]
 by_cases h:i=j
 ·subst h; rw [aq rfl,aq rfl,aq hi]; rfl
 ·rw [ah h,ah h,dL]
theorem QO {M:List Nat}{i j:Nat}(hi:i/8<M.length): bt (B7 M i) j=if j=i then true else bt M j:=by
 unfold bt B7
 rw [Gu hi]
 by_cases h:i/8=j/8
 ·rw [aq h,show Nat.lor (M.getD (i/8) 0) (2^(i%8))=(M.getD (i/8) 0) ||| (2^(i%8)) from rfl,Nat.testBit_or,Cg,h]
  by_cases I:j=i
  ·subst I; simp
  ·rw [ah I,show decide (i%8=j%8)=false from eA (by omega),od]
 ·rw [ah h,ah (by intro e; exact h (by rw [e]))]
theorem QS {M:List Nat}{i j:Nat}(hi:i/8<M.length): bt (D3 M i) j=if j=i then false else bt M j:=by
 unfold bt D3
 rw [Gu hi]
 by_cases h:i/8=j/8
 ·have e:255-2^(i%8)=2^8-(2^(i%8)+1):=by omega
  have I:2^(i%8)<2^8:=uG (by decide) (by omega)
  rw [aq h,show Nat.land (M.getD (i/8) 0) (255-2^(i%8))=(M.getD (i/8) 0) &&& (255-2^(i%8)) from rfl,Nat.testBit_and,e,Nat.testBit_two_pow_sub_succ I,Cg,h]
  by_cases J:j=i
  ·subst J; simp
  ·rw [ah J,show decide (i%8=j%8)=false from eA (by omega),show decide (j%8<8)=true from dX (by omega)]
   simp
 ·rw [ah h,ah (by intro e; exact h (by rw [e]))]
theorem IZ {M:List Nat}{i:Nat}: (B7 M i).length=M.length:=bJ
theorem I0 {M:List Nat}{i:Nat}: (D3 M i).length=M.length:=bJ
theorem MP {a k:Nat}(I:a<256)(J:k<8): Nat.lor a (2^k)<256:=Nat.or_lt_two_pow (n:=8) I (uG (by decide) J)
theorem Dl {a c:Nat}(I:a<256): Nat.land a c<256:=Cj Nat.and_le_left I
def rE (x:Nat): Nat:=((List.range 8).filter fun i=>x.testBit i).length
def kO (x:Nat): Nat:=((List.range 8).filter fun i => !x.testBit i).headD 8
theorem I1 : ∀x,x<255→kO x<8∧x.testBit (kO x)=false∧∀j,j<kO x→x.testBit j=true:=by
 have:∀x,x<255→(decide (kO x<8)&&(!x.testBit (kO x)&&(List.range (kO x)).all fun j=>x.testBit j))=true:=by decide +kernel
 intro x I
 have h:=this x I
 simp only [aJ,eu,uN,m9,List.mem_range] at h
 exact ⟨h.1,h.2.1,h.2.2⟩
theorem YI : ∀x,x<256→(∀j,j<8→x.testBit j=true)→x=255:=by
 have:∀x,x<256→((List.range 8).all fun j=>x.testBit j)=true→x=255:=by decide +kernel
 intro x I h
 exact this x I (List.all_eq_true.2 fun j J=>h j (List.mem_range.1 J))
theorem z7 {M:List Nat}{k j:Nat}(I:j<8): bt M (8*k+j)=(M.getD k 0).testBit j:=by
 unfold bt
 rw [show (8*k+j)/8=k by omega,show (8*k+j)%8=j by omega]
section
variable {P:Program} {h:H} {t:TypeId} {x y:Operand} {a b k:Nat}
theorem MQ (I:k<8): binV P h .shr t x y (.int .u8 (a:Int)) (.int .i64 (k:Int))=some (.int .u8 ((a/2^k:Nat):Int)):=by
 simp only [binV,shiftV,IntKind.bits,bP]
 rw [show decide ((k:Int)<0)=false by simp,ay,show min k 8=k by omega]
 have e:(2:Int)^k=((2^k:Nat):Int):=by push_cast; rfl
 rw [e,yD _ (Int.natCast_nonneg _),←Int.natCast_ediv]
theorem U_ (J:k<8): binV P h .shl t x y (.int .u8 1) (.int .i64 (k:Int))=some (.int .u8 ((2^k:Nat):Int)):=by
 have I:2^k<256:=uG (a:=2) (n:=8) (by decide) J
 simp only [binV,shiftV,IntKind.bits,bP]
 rw [show decide ((k:Int)<0)=false by simp,ay,show min k 8=k by omega]
 have e:(1:Int)*2^k=((2^k:Nat):Int):=by rw [Int.one_mul]; push_cast; rfl
 rw [e]
 generalize (2^k:Nat)=q at I ⊢
 rw [xE (by omega) (by omega)]
theorem z8 {op:BinOp}{f:Nat→Nat→Nat}(ha:a<256)(hb:b<256)(hf:f a b<256)(he:bitsV op .u8 (a:Int) (b:Int)=some (.int .u8 (IntKind.u8.wrap (f ((a:Int)%(2^(IntKind.u8).bits:Int)).toNat ((b:Int)%(2^(IntKind.u8).bits:Int)).toNat:Nat)))):
  bitsV op .u8 (a:Int) (b:Int)=some (.int .u8 ((f a b:Nat):Int)):=by
 have I:((a:Int)%(2^(IntKind.u8).bits:Int)).toNat=a:=by simp only [IntKind.bits]; omega
 have J:((b:Int)%(2^(IntKind.u8).bits:Int)).toNat=b:=by simp only [IntKind.bits]; omega
 rw [he,I,J,xE (by omega) (by omega)]
theorem MR (I:a<256)(J:b<256): binV P h .and t x y (.int .u8 (a:Int)) (.int .u8 (b:Int))=some (.int .u8 ((Nat.land a b:Nat):Int)):=by
 simp only [binV,ikBeq,ag,intV]
 exact z8 (f:=Nat.land) I J (Dl I) rfl
theorem Wl (I:a<256)(J:k<8): binV P h .or t x y (.int .u8 (a:Int)) (.int .u8 ((2^k:Nat):Int))=some (.int .u8 ((Nat.lor a (2^k):Nat):Int)):=by
 simp only [binV,ikBeq,ag,intV]
 exact z8 (f:=Nat.lor) I (uG (a:=2) (n:=8) (by decide) J) (MP I J) rfl
theorem MS (I:a<256)(J:b<256): binV P h .andNot t x y (.int .u8 (a:Int)) (.int .u8 (b:Int))=some (.int .u8 ((Nat.land a (255-b):Nat):Int)):=by
 simp only [binV,ikBeq,ag,intV]
 exact z8 (f:=fun a b=>Nat.land a (255-b)) I J (Dl I) rfl
theorem Gv (I:a<256): unV .xor (.int .u8 (a:Int))=some (.int .u8 ((255-a:Nat):Int)):=by
 have:∀a,a<256→Nat.xor 255 a=255-a:=by decide +kernel
 simp only [unV]
 have e:bitsV .xor .u8 ((255:Nat):Int) (a:Int)=some (.int .u8 ((Nat.xor 255 a:Nat):Int)):=z8 (f:=Nat.xor) (by decide) I (by rw [this a I]; omega) rfl
 rw [this a I] at e
 exact e
theorem Va : Nat.land (a/2^k) 1=if a.testBit k=true then 1 else 0:=by
 rw [HP,show Nat.land (a/2^k) 1=(a/2^k) &&& 1 from rfl,Nat.and_one_is_mod]
 by_cases h:a/2^k%2=1
 ·rw [h,aq (decide_eq_true rfl)]
 ·rw [ah (by simpa using h)]; omega
theorem MT {f:Nat→Nat}{L:List Nat}(hu:P.underlying t=some .string)(I:∀x,x<256→nth L x=some (f x))(J:a<256): indexV P t (.str L) (.int .u8 (a:Int))=some (.int .u8 ((f a:Nat):Int)):=by
 simp only [indexV,hu,bP,I a J]
 rw [show decide ((0:Int)≤(a:Int))=true by simp,ag]
end
section
variable {told:cZ} {h:H} {S:List au} {X Y:au} {N B n:Nat} {v x y rv:V} {b l c R M:List Nat} {kd link extra ny:Nat} {cs:List (List Nat)} {A:aE→au} {pg:aE→Int→List Nat} {ε:aE}
theorem Pn (I:W told){a:Nat}(J:a<256): Call ⟨Tryz.prog,told⟩ 56 [.int .u8 (a:Int)] h fun r h'=>r=.int .i64 (rE a:Nat)∧h'=h:=by
 have hle:rE a≤8:=by unfold rE; exact cu (yG _ _) (by simp)
 refine Call.of_wp (I.free _ rfl) Tryz.func56 rfl rfl (zK 7 rfl (zo rfl (Ff rfl rfl (MT (f:=rE) qC (by decide +kernel) J)) ?_))
 refine zo rfl (b9 rfl (by exact ji Tryz.underlying5 bI (aB (by omega) (by omega)))) ?_
 exact zk 2 rfl (WP.ret ⟨aa,_,rfl,rfl,rfl⟩)
theorem Gw (I:W told){a:Nat}(J:a<256): Call ⟨Tryz.prog,told⟩ 109 [.int .u8 ((255-a:Nat):Int)] h fun r h'=>r=.int .i64 (kO a:Nat)∧h'=h:=by
 have hle:∀a,a<256→kO a≤8:=by decide +kernel
 have hle:=hle a J
 have he:kO (255-(255-a))=kO a:=by rw [show 255-(255-a)=a by omega]
 refine Call.of_wp (I.free _ rfl) Tryz.func109 rfl rfl (zK 7 rfl (zo rfl (Ff rfl rfl (MT (f:=fun x=>kO (255-x)) qC (by decide +kernel) (by omega))) ?_))
 rw [he]
 refine zo rfl (b9 rfl (by exact ji Tryz.underlying5 bI (aB (by omega) (by omega)))) ?_
 exact zk 2 rfl (WP.ret ⟨aa,_,rfl,rfl,rfl⟩)
noncomputable def XE : Code:=cV [1,1,1,0,1,0,0,1,1,0,0,1,1,1,1,0,0] ((Tryz.f51.body).getD .skip)
theorem Po (hT:W told){u:V}{lo:Nat}(hv:View h u M)(hM:M.length=375)(hn:n≤3000)(nA:lo<n)(h0:bt M lo=false)(h1:∀j,j<lo→bt M j=true): ∀(m k:Nat) (E:List (Nat×V)) (Q:Ex→List (Nat×V)→H→Prop),k+m=lo/8 →
  Has E [(5,.int .i64 (n:Int)),(7,.int .i64 0),(39,u),(40,.int .i64 375),(41,.int .i64 (k:Int))] →
  (∀E',look E' 2=some (.int .i64 (lo:Int))→look E' 3=some (.int .i64 0)→Q .ret E' h)→WP ⟨Tryz.prog,told⟩ 65 (.loop XE) E h Q:=by
 intro m
 induction m with
 | zero =>
  intro k E Q hk hE hq
  have J:M[k]?=some (M[k]'(by omega)):=aN _
  have I:M.getD k 0=M[k]'(by omega):=by rw [dL,J]; rfl
  generalize (M[k]'(by omega))=x at J I
  have hx:x<256:=hv.1 x (a_ J)
  obtain ⟨id,off,e1,e2⟩:=dR hv J
  have Fc:x≠255:=fun e=>by
   have:=z7 (M:=M) (k:=k) (j:=lo%8) (by omega)
   rw [show 8*k+lo%8=lo by omega,h0,I,e] at this
   have q:∀j,j<8→(255:Nat).testBit j=true:=by decide
   rw [q _ (by omega)] at this; cases this
  obtain ⟨w1,w2,w3⟩:=I1 x (by omega)
  have hl:8*k+kO x=lo:=by
   have a1:=z7 (M:=M) (k:=k) (j:=kO x) w1
   rw [I,w2] at a1
   rcases j8 (8*k+kO x) lo with q | q
   ·rw [h1 _ q] at a1; cases a1
   ·by_cases q2:lo%8<kO x
    ·have:=w3 _ q2
     have a2:=z7 (M:=M) (k:=k) (j:=lo%8) (by omega)
     rw [show 8*k+lo%8=lo by omega,h0,I,this] at a2; cases a2
    ·omega
  refine WP.loop (WP.has hE (zg rfl (zt rfl (af rfl rfl aK) (by simp; omega) ?_)))
  refine zk 5 rfl (WP.block (zK 3 rfl (zo rfl (cn (r:=.ptr id off) rfl rfl e1) (zl rfl e2 (zk 6 rfl (zb rfl (by exact jB (aB (by omega) (by omega))) ?_))))))
  refine zm rfl (zb rfl (by exact jB (aB (by omega) (by omega))) ?_)
  refine zb rfl (by exact bg (aB (by omega) (by omega))) ?_
  refine zm rfl (zo rfl (cX rfl (Gv hx)) (zc rfl (Gw hT hx) ?_))
  rintro v h' ⟨rfl,rfl⟩
  refine zo rfl (af (r:=.int .i64 (lo:Int)) rfl rfl (by rw [←hl,show (((8*k+kO x:Nat):Int))=(3000*0+8*(k:Int))+(kO x:Int) by omega]; exact bg (aB (by omega) (by omega)))) ?_
  refine zk 5 rfl (zt rfl (af rfl rfl aG) (by simp; omega) ?_)
  refine zk 3 rfl (zt rfl (af rfl rfl aK) (by simp; omega) ?_)
  exact zk 9 rfl (WP.ret (hq _ rfl rfl))
 | succ m ih =>
  intro k E Q hk hE hq
  have J:M[k]?=some (M[k]'(by omega)):=aN _
  have I:M.getD k 0=M[k]'(by omega):=by rw [dL,J]; rfl
  generalize (M[k]'(by omega))=x at J I
  have hx:x<256:=hv.1 x (a_ J)
  obtain ⟨id,off,e1,e2⟩:=dR hv J
  have Fc:x=255:=YI x hx fun j hj=>by rw [←I,←z7 hj]; exact h1 _ (by omega)
  have MU:∀a,a<256→kO a≤8:=by decide +kernel
  have MU:=MU x hx
  refine WP.loop (WP.has hE (zg rfl (zt rfl (af rfl rfl aK) (by simp; omega) ?_)))
  refine zk 5 rfl (WP.block (zK 3 rfl (zo rfl (cn (r:=.ptr id off) rfl rfl e1) (zl rfl e2 (zk 6 rfl (zb rfl (by exact jB (aB (by omega) (by omega))) ?_))))))
  refine zm rfl (zb rfl (by exact jB (aB (by omega) (by omega))) ?_)
  refine zb rfl (by exact bg (aB (by omega) (by omega))) ?_
  refine zm rfl (zo rfl (cX rfl (Gv hx)) (zc rfl (Gw hT hx) ?_))
  rintro v h' ⟨rfl,rfl⟩
  refine zb rfl (by exact bg (aB (by omega) (by omega))) ?_
  refine zk 5 rfl (zh rfl (af rfl rfl aG) (by simp; omega) ?_)
  refine zk 5 rfl (zv (zj rfl (WP.skip (zr rfl (zb rfl (by exact bg (aB (by omega) (by omega))) ?_)))))
  refine zm rfl (zv ?_)
  exact ih (k+1) _ Q (by omega) ⟨rfl,rfl,rfl,rfl,rfl,aa⟩ hq
theorem MV (hT:W told){u:V}(hv:View h u M)(hM:M.length=375)(hn:n≤3000)(h1:∀j,j<n→bt M j=true)(h0:∀j,n≤j→bt M j=false): ∀(m k:Nat) (E:List (Nat×V)) (Q:Ex→List (Nat×V)→H→Prop),k+m=375 →
  Has E [(5,.int .i64 (n:Int)),(7,.int .i64 0),(25,.int .i64 1),(26,.int .i64 0),(39,u),(40,.int .i64 375),(41,.int .i64 (k:Int))] →
  (∀E',Has E' [(25,.int .i64 1),(26,.int .i64 0)]→Q (.exit 2) E' h)→WP ⟨Tryz.prog,told⟩ 65 (.loop XE) E h Q:=by
 intro m
 induction m with
 | zero =>
  intro k E Q hk I hq
  refine WP.loop (WP.has I (zg rfl (zh rfl (af rfl rfl aK) (by simp; omega) ?_)))
  exact zk 3 rfl (WP.exit (hq _ ⟨rfl,rfl,aa⟩))
 | succ m ih =>
  intro k E Q hk I hq
  have hb:M[k]?=some (M[k]'(by omega)):=aN _
  have J:M.getD k 0=M[k]'(by omega):=by rw [dL,hb]; rfl
  generalize (M[k]'(by omega))=x at hb J
  have hx:x<256:=hv.1 x (a_ hb)
  obtain ⟨id,off,e1,e2⟩:=dR hv hb
  have MU:∀a,a<256→kO a≤8:=by decide +kernel
  have MU:=MU x hx
  have next:=fun E I=>ih (k+1) E Q (by omega) I hq
  refine WP.loop (WP.has I (zg rfl (zt rfl (af rfl rfl aK) (by simp; omega) ?_)))
  refine zk 5 rfl (WP.block (zK 3 rfl (zo rfl (cn (r:=.ptr id off) rfl rfl e1) (zl rfl e2 (zk 6 rfl (zb rfl (by exact jB (aB (by omega) (by omega))) ?_))))))
  refine zm rfl (zb rfl (by exact jB (aB (by omega) (by omega))) ?_)
  refine zb rfl (by exact bg (aB (by omega) (by omega))) ?_
  refine zm rfl (zo rfl (cX rfl (Gv hx)) (zc rfl (Gw hT hx) ?_))
  rintro v h' ⟨rfl,rfl⟩
  refine zb rfl (by exact bg (aB (by omega) (by omega))) ?_
  refine zk 5 rfl ?_
  by_cases Fc:x=255
  ·skip
   refine zh rfl (af rfl rfl aG) (by simp; omega) ?_
   refine zk 5 rfl (zv (zj rfl (WP.skip (zr rfl (zb rfl (by exact bg (aB (by omega) (by omega))) ?_)))))
   refine zm rfl (zv ?_)
   exact next _ ⟨rfl,rfl,rfl,rfl,rfl,rfl,rfl,aa⟩
  ·obtain ⟨w1,w2,w3⟩:=I1 x (by omega)
   have P8:n≤8*k+kO x:=by
    rcases j8 (8*k+kO x) n with q | q
    ·have:=h1 _ q
     rw [z7 w1,J,w2] at this; cases this
    ·exact q
   refine zt rfl (af rfl rfl aG) (by simp; omega) ?_
   refine zk 3 rfl (zh rfl (af rfl rfl aK) (by simp; omega) ?_)
   refine zq rfl (zv (zj rfl (WP.skip (zr rfl (zb rfl (by exact bg (aB (by omega) (by omega))) ?_)))))
   refine zm rfl (zv ?_)
   exact next _ ⟨rfl,rfl,rfl,rfl,rfl,rfl,rfl,aa⟩
end
end Go.Proofs.YtefepnnfphdkpaaGreat.Am
