/- TxLong: a part of its proof; conditions: its statement's. -/
import Derived.Test.YtiojppeahfoiaaaGreatK05
import Derived.Test.YtiojppeahfoiaaaGreatK02
set_option linter.defProp false
namespace Go.Proofs.YtiojppeahfoiaaaGreat.Am
open Go
def C6:=@Tryz.underlying26
def Ia:=@Tryz.func79
def Ib:=@Tryz.underlying345
variable {X Y:aP} {code:Code} {d:rF} {ε ai:bq} {A:bq→aP} {pg:bq→Int→List Nat} {lv dd:bq→Prop} {Q:Ex→List (Nat×V)→H→Prop} {fn:Func} {h:H} {e z:Int} {P':Int→List Nat} {now:List (Int×List Nat)} {cs:List (List Nat)} {E:List (Nat×V)} {S:List aP} {U:List Bool} {br:List cO} {b l c R M L data ff:List Nat} {args Rt:List V} {k link extra lk i N B id a n j r9 lo g q r aE f tx K aD acc pv nx:Nat} {P:Program} {t te t':TypeId} {x rv y uv:V}
section
variable {told:cC} {v:V} {kd:Nat}
theorem FB (J:W told)(s:Sat h S)(hkd:kd≤255):
  Call ⟨Tryz.prog,told⟩ 39 [.int .i64 (kd:Int)] h fun r h'=>∃u,r=.aO [u,.int .i64 0]∧Sat h' (bp u (uZ kd)::S):=by
 refine Call.of_wp (J.free _ rfl) Tryz.func39 rfl rfl (zK 9 rfl (zC rfl aT (by simp) ?_))
 refine zk 2 rfl (zC rfl er (by simp;omega) ?_)
 refine zk 6 rfl (au.any rfl rfl rfl (OpR.Cx rfl s rfl rfl rfl rfl (by decide)) ?_)
 intro u h s
 have hl:(List.replicate 512 0).length=512:=fD
 have hn:uZ kd=bH ((List.replicate 512 0).set 12 kd) 16 (le 2 512):=rfl
 generalize List.replicate 512 0=l at hl hn s
 obtain⟨lM,_,cap,_,rfl,_⟩:=s.fF (by omega)
 refine zo rfl (cx rfl (by rw[AB];rfl)) ?_
 refine au.bP s rfl rfl rfl (bR jv) (fun p4 h s => ?_)
 refine zS rfl (s.fM (j:=0) rfl bI rfl rfl) (fun h s => ?_)
 refine zk 3 rfl (zY s 0 gH b8 rfl (zm rfl (zo rfl (bO rfl (by exact gB bF Tryz.underlying5 (vS (by omega) (by omega)))) ?_)))
 have s:=s.ae [1,0]
 obtain⟨A_,I,e3,h2,e4,s2⟩:=oc s (i:=12) (b:=kd) (by omega) (by omega)
 have iQ:(l.set 12 kd).length=512:=by rw[dD,hl]
 refine zo rfl (cZ (r:=.ptr A_ I) rfl rfl e3) (zS rfl (⟨h2,e4,s2⟩) ?_)
 rintro h s
 have s:=s.ae [1,0]
 refine zk 3 rfl (zl rfl (s.cK (k:=0) rfl b_ bI) (zc rfl (pT (a:=16) (z:=2) (n:=512) J (s.ae [1]) (by decide) (by decide) (by omega) (by omega)) ?_))
 rintro r h ⟨rfl,s⟩
 have s:=s.ae [1,0]
 refine zk 3 rfl (zY s 0 gH b8 rfl (zk 3 rfl (WP.ret ⟨aa,_,rfl,?_⟩)))
 refine⟨_,rfl,?_⟩
 rw[hn]
 exact s.drop
theorem Ic (J:W told)(s:Sat h S)(I:kd≤255):
  Call ⟨Tryz.prog,told⟩ 39 [.int .i64 (kd:Int)] h fun r h'=>∃u b,r=.aO [u,.int .i64 0]∧dX b kd 0 0 []∧Sat h' (bp u b::S) :=
 (FB J s I).mono fun r h' ⟨u,e,s⟩=>⟨u,_,e,dX.new (k:=kd),s⟩
theorem KW (I:W told){ex:Nat}(s:Sat h (X::S))(hX:cD X (cE v b))(J:dX b kd link extra cs)(Fw:lk<4294967296)(hex:ex<4294967296):
  Call ⟨Tryz.prog,told⟩ 151 [v,.int .i64 (lk:Int),.int .i64 (ex:Int)] h fun r h'=>∃u b',r=.aO [u,.int .i64 0]∧dX b' kd lk ex cs∧Sat h' (bp u b'::X::S):=by
 have hl:=J.len
 have hle:∀n,(le 4 n).length=4:=fun n=>cq 4 n
 have l1:(bH b 18 (le 4 lk)).length=512:=by rw[c5 (by rw[hle];omega),hl]
 refine Call.of_wp (I.free _ rfl) Tryz.func151 rfl rfl (zK 8 rfl (zc rfl (uy I s hX (by omega)) ?_))
 rintro r h' (⟨hg,u,rfl,s⟩|⟨hg,rfl,s⟩)
 ·obtain⟨lM,_,cap,_,rfl,_⟩:=s.fF (by omega)
  refine zk 3 rfl ?_
  refine au.bP s rfl rfl rfl (bR jv) (fun p8 h s => ?_)
  dsimp only[V.cells,List.length_cons,List.length_nil,Nat.reduceAdd] at s
  refine zS rfl (s.fM (j:=0) rfl bI rfl rfl) (fun h s => ?_)
  dsimp only[setA] at s
  refine zk 3 rfl (WP.block (zK 3 rfl (zC rfl aA (rfl) (zk 6 rfl (zC rfl aT (by simp) ?_)))))
  refine zk 2 rfl (zC rfl er (by simp;omega) ?_)
  refine zk 3 rfl (zC rfl aT (by simp) ?_)
  refine zk 3 rfl (zC rfl er (by simp;omega) ?_)
  refine zk 2 rfl (zv (zj rfl (WP.skip (zg rfl (zl rfl (by exact s.cK (k:=0) rfl b_ bI) ?_)))))
  refine zm rfl (zo rfl (bO rfl (by exact gB bF bM (eB (by omega) (by omega)))) ?_)
  refine zc rfl (pT (a:=18) (z:=4) (n:=lk) I (s.ae [1]) (by decide) (by decide) (by omega) (by omega)) ?_
  rintro r h' ⟨rfl,s⟩
  have s:=s.ae [1,0]
  refine zk 3 rfl (zl rfl (s.cK (k:=0) rfl b_ bI) (zm rfl (zo rfl (bO rfl (by exact gB bF bM (eB (by omega) (by omega)))) ?_)))
  refine zc rfl (pT (a:=22) (z:=4) (n:=ex) I (s.ae [1]) (by decide) (by decide) (by omega) (by omega)) ?_
  rintro r h' ⟨rfl,s⟩
  have s:=s.ae [1,0]
  exact zk 3 rfl (zY s 0 gH b8 rfl (zk 3 rfl (WP.ret ⟨aa,_,rfl,_,_,rfl,J.set Fw hex,s.drop⟩)))
 ·rw[J.good] at hg;cases hg
theorem y8 (J:W told)(s:Sat h (X::S))(I:cD X (cE v l))(hl:l.length<1073741824):
  Call ⟨Tryz.prog,told⟩ 201 [v] h fun r h'=>Sat h' (bp r l::X::S):=by
 have hv:=s.aI (k:=0) rfl I
 refine Call.of_wp (J.free _ rfl) Tryz.func201 rfl rfl (zK 7 rfl (zo rfl (a_ rfl rfl rfl (bA aN (s.aI (k:=0) rfl I))) (au.any rfl rfl rfl (OpR.tI rfl s rfl rfl rfl rfl (by omega)) ?_)))
 intro u h s
 refine zm rfl (au.any rfl rfl rfl (OpR.pS rfl s I rfl rfl rfl rfl (by simp;omega)) ?_)
 intro u2 h s
 rw[dY] at s
 exact zk 2 rfl (WP.ret ⟨aa,_,rfl,s⟩)
theorem Ie (I:W told)(s:Sat h (X::S))(hX:cD X (cE v b))(J:dX b kd link extra cs)(hc:cs[i]?=some c):
  Call ⟨Tryz.prog,told⟩ 141 [v,.int .i64 (i:Int)] h fun r h'=>∃u,r=.aO [u,.int .i64 0]∧Sat h' (bp u c::X::S):=by
 have hl:=J.len
 have hv:=s.aI (k:=0) rfl hX
 have hi:=(List.getElem?_eq_some_iff.1 hc).1
 have fu:=J.fits
 have Fs:=ou (cs:=cs) (i:=i+1)
 have Pn:=m_ hc
 obtain⟨pi,po,pc,rfl⟩:=gU hv (by omega)
 refine Call.of_wp (I.free _ rfl) Tryz.func141 rfl rfl (zK 8 rfl (zc rfl (tN I s hX (by omega)) ?_))
 rintro r h' ⟨s,(⟨hg,rfl⟩|⟨hg,rfl⟩)⟩
 ·refine au.op rfl rfl rfl (aS rfl) ?_
  refine zk 2 rfl ?_
  refine au.bP s rfl rfl rfl (bR jv) (fun p6 h s => ?_)
  dsimp only[V.cells,List.length_cons,List.length_nil,Nat.reduceAdd] at s
  refine zS rfl (s.fM (j:=0) rfl bI rfl rfl) (fun h s => ?_)
  dsimp only[setA] at s
  refine zk 3 rfl (WP.block (zK 3 rfl (zC rfl aA (rfl) (zk 6 rfl (zC rfl aT (by simp) ?_)))))
  refine zk 2 rfl (zl rfl (s.cK (k:=0) rfl b_ bI) (zc rfl (kQ I s (k:=1) rfl hX hl) ?_))
  rintro r h' ⟨rfl,s⟩
  rw[J.dc]
  refine zC rfl jj (by simp;omega) ?_
  refine zk 2 rfl (zv (zj rfl (WP.skip (zg rfl (zl rfl (by exact s.cK (k:=0) rfl b_ bI) ?_)))))
  refine zm rfl (zc rfl (Eu (i:=i) I s (k:=1) rfl hX J hc) ?_)
  rintro r h' ⟨f,rfl,hr,s⟩
  refine zc rfl (y8 I (s.ae [1]) hr (by omega)) ?_
  intro u h s
  exact zk 3 rfl (WP.ret ⟨aa,_,rfl,_,rfl,s.del 2⟩)
 ·rw[J.good] at hg;cases hg
end
theorem Si : ∃i,Tryz.prog.info? 23=some i∧i.size=1∧i.bytes=24 :=
 ⟨_,(show Tryz.prog.info? 23=some ((Tryz.prog.info? 23).getD default) by kernel_rfl),by kernel_rfl,by kernel_rfl⟩
section
variable {told:cC} {v:V} {c':List Nat} {kd:Nat}
theorem KX (I:W told)(s:Sat h (X::Y::S))(hX:cD X (cE v b))(hY:cD Y (cE x c))(hp:dX b kd link extra cs)(hf:26+4*(cs.length+1)+(tot cs+c.length)≤512):
  Call ⟨Tryz.prog,told⟩ 152 [v,.int .i64 (cs.length:Int),x] h fun r h'=>∃u b',r=.aO [u,.int .i64 0]∧dX b' kd link extra (cs++[c])∧Sat h' (bp u b'::X::Y::S):=by
 have hl:=hp.len
 have tM:=hp.low
 have hle:∀n,(le 2 n).length=2:=fun n=>cq 2 n
 generalize hn:cs.length=n at hf
 have J:=hp.dc
 have rR:∃lo,lo+(tot cs+c.length)=512:=⟨512-(tot cs+c.length),by omega⟩
 obtain⟨lo,rR⟩:=rR
 have l1:(bH b 14 (le 2 (n+1))).length=512:=by grind[c5]
 have iQ:iG (bH b 14 (le 2 (n+1)))=lo+c.length:=by
  grind[iG,AM]
 refine Call.of_wp (I.free _ rfl) Tryz.func152 rfl rfl (zK 8 rfl (zc rfl (uy I s hX (by omega)) ?_))
 rintro r h' (⟨hg,u,rfl,s⟩|⟨hg,rfl,s⟩)
 ·obtain⟨lM,_,cap,_,rfl,_⟩:=s.fF (by omega)
  refine zk 3 rfl ?_
  refine au.bP s rfl rfl rfl (bR jv) (fun p8 h s => ?_)
  dsimp only[V.cells,List.length_cons,List.length_nil,Nat.reduceAdd] at s
  refine zS rfl (s.fM (j:=0) rfl bI rfl rfl) (fun h s => ?_)
  dsimp only[setA] at s
  refine zk 3 rfl (WP.block (zK 3 rfl (zC rfl aA (rfl) (zk 6 rfl (zC rfl aT (by simp) ?_)))))
  refine zk 2 rfl (zl rfl (s.cK (k:=0) rfl b_ bI) (zc rfl (kQ I s (k:=1) rfl (aY _ _) hl) ?_))
  rintro r h' ⟨rfl,s⟩
  rw[J,hn]
  refine zC rfl er (by simp) ?_
  refine zk 6 rfl (zl rfl (s.cK (k:=0) rfl b_ bI) (zc rfl (Sg I (s.ae [1]) (aY _ _) hp) ?_))
  rintro r h' ⟨rfl,s⟩
  have s:=s.ae [1,0]
  dsimp only[aK,bringA,getA] at s
  rw[hn]
  refine zm rfl (zo rfl (a_ rfl rfl rfl (bA aN (s.aI (k:=3) rfl hY))) (zb rfl (by exact aW (az (by omega) (by omega))) ?_))
  refine zC rfl aT (by grind) ?_
  refine za rfl (zv (zj rfl (WP.skip (zw (zg rfl (zl rfl (by exact s.cK (k:=0) rfl b_ bI) ?_))))))
  refine zc rfl (Vr I s (k:=1) rfl (aY _ _) hp) ?_
  rintro r h' ⟨rfl,s⟩
  rw[hn]
  refine zm rfl (zo rfl (a_ rfl rfl rfl (bA aN (s.aI (k:=3) rfl hY))) (zb rfl (by exact aW (az (by omega) (by omega))) ?_))
  refine zC rfl aT (by grind) ?_
  refine zv (zj rfl (WP.skip (zg rfl (zl rfl (by exact s.cK (k:=0) rfl b_ bI) ?_))))
  refine zc rfl (kQ I s (k:=1) rfl (aY _ _) hl) ?_
  rintro r h' ⟨rfl,s⟩
  rw[J,hn]
  refine zk 3 rfl ?_
  have q1:((26:Int)+4*((n:Int)+1)).toNat=30+4*n:=by omega
  have q2:((26:Int)+4*(n:Int)).toNat=26+4*n:=by omega
  have s0:=s
  refine WP.drawn [af,af,af,af,af,af,af,af,af,af,af,af,af,af,af,af,af,af,af,af,af] rfl (by kernel_rfl) (by kernel_rfl) ?_
  refine zF rfl (gH _ _) (zL rfl (s.ld (k:=0) rfl b8 rfl) (zM rfl (zO rfl (aq rfl rfl (by exact aW (az (by omega) (by omega)))) ?_)))
  refine zO rfl (aq rfl rfl (by exact iE (az (by omega) (by omega)))) ?_
  refine zO rfl (aq rfl rfl (by exact aW (az (by omega) (by omega)))) ?_
  refine zM rfl (zO rfl (aq rfl rfl (by exact aW (az (by omega) (by omega)))) ?_)
  refine zO rfl (aq rfl rfl (by exact iE (az (by omega) (by omega)))) ?_
  refine zO rfl (aq rfl rfl (by exact aW (az (by omega) (by omega)))) ?_
  refine zO rfl (cj (p:=some (.int .i64 (26+4*((n:Int)+1)))) (q:=some (.int .i64 (26+4*((n:Int)+1)))) (m:=none) (p':=some (30+4*n)) (q':=some (30+4*n)) (m':=none) rfl rfl rfl rfl (by rw[cF (by omega),q1]) (by rw[cF (by omega),q1]) rfl (cR (s.buf (k:=1) rfl).view (aQ _) (by omega)).1) ?_
  refine zF rfl (gH _ _) (zL rfl (s.ld (k:=0) rfl b8 rfl) (zM rfl (zO rfl (aq rfl rfl (by exact iE (az (by omega) (by omega)))) ?_)))
  refine zO rfl (aq rfl rfl (by exact aW (az (by omega) (by omega)))) ?_
  refine zM rfl (zO rfl (aq rfl rfl (by exact iE (az (by omega) (by omega)))) ?_)
  refine zO rfl (aq rfl rfl (by exact aW (az (by omega) (by omega)))) ?_
  refine zO rfl (cj (p:=some (.int .i64 (26+4*(n:Int)))) (q:=some (.int .i64 (26+4*(n:Int)))) (m:=none) (p':=some (26+4*n)) (q':=some (26+4*n)) (m':=none) rfl rfl rfl rfl (by rfl) (by rfl) rfl (cR (s.buf (k:=1) rfl).view (aQ _) (by omega)).1) ?_
  refine ax.any rfl rfl rfl rfl (OpR.Z6 rfl (s.ae [1]) rfl rfl rfl rfl (by omega) (by omega) (by omega)) ?_
  intro r h s
  have s:=s.ae [1,0]
  refine ax.nil ⟨⟨aa,aa,aa,aa,aa,aa,aa,aa,aa,aa,aa,aa,aa,aa,aa,aa,aa,aa,aa,aa,aa,aa⟩,?_⟩
  refine zg rfl (zl rfl (s.cK (k:=0) rfl b_ bI) (zm rfl (zb rfl (by exact aW (az (by omega) (by omega))) ?_)))
  refine zo rfl (bO rfl (by exact gB bF bM (eB (by omega) (by omega)))) ?_
  have en:(n:Int)+1=((n+1:Nat):Int):=by omega
  rw[en]
  refine zc rfl (pT (a:=14) (z:=2) (n:=n+1) I (s.ae [1]) (by decide) (by decide) (by omega) (by omega)) ?_
  rintro r h ⟨rfl,s⟩
  have s:=s.ae [1,0]
  refine zk 3 rfl (zl rfl (s.cK (k:=0) rfl b_ bI) (zk 2 rfl (zc rfl (Sh (i:=n) (lo:=lo) I (s.ae [1,2]) hY l1 (by omega) iQ (by omega)) ?_)))
  rintro r h ⟨rfl,s⟩
  have s:=s.ae [2,0,1,0]
  refine zk 3 rfl (zY s 0 gH b8 rfl (zk 3 rfl (WP.ret ⟨aa,_,rfl,?_⟩)))
  subst hn
  exact⟨_,_,rfl,hp.ins hf rR,s.drop⟩
 ·rw[hp.good] at hg;cases hg
theorem AN (hT:W told)(s:Sat h (X::Y::S))(hX:cD X (cE v b))(hY:cD Y (cE x c'))(J:dX b kd link extra cs)(hc:cs[i]?=some c)(hlc:c'.length=c.length):
  Call ⟨Tryz.prog,told⟩ 134 [v,.int .i64 (i:Int),x] h fun r h'=>∃u b',r=.aO [u,.int .i64 0]∧dX b' kd link extra (cs.set i c')∧Sat h' (bp u b'::X::Y::S):=by
 have hl:=J.len
 have fu:=J.fits
 have hi:=(List.getElem?_eq_some_iff.1 hc).1
 have Pn:=m_ hc
 have I:=J.rep hc hlc
 obtain⟨s1,s2,s3⟩:=J.slot i c hc
 generalize hf:dH b i=f at s1 s3 I
 have l1:(bH b f c').length=512:=by rw[c5 (by omega),hl]
 refine Call.of_wp (hT.free _ rfl) Tryz.func134 rfl rfl (zK 8 rfl (zc rfl (uy hT s hX (by omega)) ?_))
 rintro r h' (⟨hg,u,rfl,s⟩|⟨hg,rfl,s⟩)
 ·obtain⟨lM,_,cap,_,rfl,_⟩:=s.fF (by omega)
  refine zk 3 rfl ?_
  refine au.bP s rfl rfl rfl (bR jv) (fun p8 h s => ?_)
  dsimp only[V.cells,List.length_cons,List.length_nil,Nat.reduceAdd] at s
  refine zS rfl (s.fM (j:=0) rfl bI rfl rfl) (fun h s => ?_)
  dsimp only[setA] at s
  refine zk 3 rfl (WP.block (zK 3 rfl (zC rfl aA (rfl) (zk 6 rfl (zC rfl aT (by simp) ?_)))))
  refine zk 2 rfl (zl rfl (s.cK (k:=0) rfl b_ bI) (zc rfl (kQ hT s (k:=1) rfl (aY _ _) hl) ?_))
  rintro r h' ⟨rfl,s⟩
  rw[J.dc]
  refine zC rfl jj (by grind) ?_
  refine zk 2 rfl (zv (zj rfl (WP.skip (zg rfl (zl rfl (by exact s.cK (k:=0) rfl b_ bI) ?_)))))
  refine zm rfl (zc rfl (AI (i:=i) hT s (k:=1) rfl (aY _ _) hl (by omega)) ?_)
  rintro r h' ⟨rfl,s⟩
  rw[hf,s2]
  refine zk 10 rfl (zo rfl (a_ rfl rfl rfl (bA aN (s.aI (k:=3) rfl hY))) (zm rfl (zB rfl yB (by grind) ?_)))
  refine zk 4 rfl (zY s 0 gH b8 rfl (zm rfl ?_))
  have jT:=gj (s.aI (k:=1) rfl (aY _ _)) (a:=f) (by omega)
  refine zo rfl (cj (p:=some (.int .i64 (f:Int))) (q:=none) (m:=none) (p':=some f) (q':=none) (m':=none) rfl rfl rfl rfl (by rfl) rfl rfl jT.1) ?_
  refine zm rfl (au.any rfl rfl rfl (OpR.T2 rfl (s.ae [1,2]) hY rfl rfl rfl rfl (by omega) (aQ _) (by omega)) ?_)
  intro r h s
  rw[gC (by omega)] at s
  have s:=s.ae [2,0,1,0]
  refine zk 3 rfl (zl rfl (s.cK (k:=0) rfl b_ bI) (zk 3 rfl (zo rfl (a_ rfl rfl rfl (bA aN (s.aI (k:=3) rfl hY))) (zc rfl (C5 (i:=i) (f:=f) (z:=c'.length) hT (s.ae [1]) l1 (by omega) (by omega) (by omega)) ?_))))
  rintro r h ⟨rfl,s⟩
  have s:=s.ae [1,0]
  exact zk 3 rfl (zY s 0 gH b8 rfl (zk 3 rfl (WP.ret ⟨aa,_,rfl,_,_,rfl,I,s.drop⟩)))
 ·rw[J.good] at hg;cases hg
theorem MC (I:W told){c0 c1:List Nat}(s:Sat h (X::S))(hX:cD X (cE v b))(J:dX b kd link extra [c0,c1]):
  Call ⟨Tryz.prog,told⟩ 203 [v] h fun r h'=>∃w u0 u1,r=.aO [w,.int .i64 0]∧Sat h' (.arr 1 w [u0,u1]::bp u0 c0::bp u1 c1::X::S):=by
 have hl:=J.len
 have hv:=s.aI (k:=0) rfl hX
 have fu:=J.fits
 simp only[tot,bn,cr] at fu
 obtain⟨pi,po,pc,rfl⟩:=gU hv (by omega)
 obtain⟨i1,jX,jd,tK⟩:=Si
 refine Call.of_wp (I.free _ rfl) Tryz.func203 rfl rfl (zK 8 rfl (zc rfl (tN I s hX (by omega)) ?_))
 rintro r h' ⟨s,(⟨hg,rfl⟩|⟨hg,rfl⟩)⟩
 ·refine au.op rfl rfl rfl (aS rfl) ?_
  refine zk 2 rfl ?_
  refine au.bP s rfl rfl rfl (bR jv) (fun p4 h s => ?_)
  dsimp only[V.cells,List.length_cons,List.length_nil,Nat.reduceAdd] at s
  refine zS rfl (s.fM (j:=0) rfl bI rfl rfl) (fun h s => ?_)
  dsimp only[setA] at s
  refine zk 6 rfl (zC rfl aA (rfl) (zk 5 rfl (zl rfl (s.cK (k:=0) rfl b_ bI) (zc rfl (kQ I s (k:=1) rfl hX hl) ?_))))
  rintro r h' ⟨rfl,s⟩
  rw[show kP b=2 from J.dc]
  obtain⟨wv,h1,e3,s1⟩:=uq (P:=Tryz.prog) s gV jX rX jd (by omega) rfl (by decide) (by decide) (n:=0) (c:=2) (by decide) (by decide)
  refine au.any rfl rfl rfl (OpR.of (R:=fun v h'=>v=wv∧h'=h1) (uk rfl rfl e3) ⟨rfl,rfl⟩) ?_
  rintro w0 h ⟨rfl,rfl⟩
  have s:Sat h (.arr 1 w0 []::_):=s1
  have s:=s.ae [1,1,0]
  dsimp only[bringA,getA,aK] at s
  refine zk 5 rfl (zl rfl (s.cK (k:=0) rfl b_ bI) (zc rfl (kQ I s (k:=1) rfl hX hl) ?_))
  rintro r h' ⟨rfl,s⟩
  rw[show kP b=2 from J.dc]
  refine zk 2 rfl (WP.block (WP.loop (zg rfl (zB rfl aT (by decide) ?_))))
  refine zk 5 rfl (WP.block (zK 7 rfl (zl rfl (s.cK (k:=0) rfl b_ bI) (zm rfl (zc rfl (Eu (i:=0) (c:=c0) I s (k:=1) rfl hX J rfl) ?_)))))
  rintro r h' ⟨f,rfl,hr,s⟩
  refine zc rfl (y8 I (s.ae [1]) hr (by omega)) ?_
  intro u0 h s
  have hu0:=(s.buf (k:=0) rfl).view.cells
  have s:=s.ae [3]
  dsimp only[aK,bringA,getA] at s
  obtain⟨iv,h1,tQ,s1⟩:=kj (P:=Tryz.prog) (k:=1) (x:=u0) s gV rX iF rfl (by decide) (by decide) (by grind) (by grind)
  rw[hu0.1] at s1
  refine au.any rfl rfl rfl (OpR.of (R:=fun v h'=>v=iv∧h'=h1) (mC rfl tQ) ⟨rfl,rfl⟩) ?_
  rintro v' h' ⟨rfl,rfl⟩
  obtain⟨av,h2,om,s2⟩:=g_ (s1.ae [1,0]) gV jX rX jd (by omega) rfl (by decide) (by simp)
  dsimp only[List.nil_append,aK,bringA] at s2
  refine au.any rfl rfl rfl (OpR.of (R:=fun v h'=>v=av∧h'=h2) (ox rfl rfl om) ⟨rfl,rfl⟩) ?_
  rintro v' h ⟨rfl,rfl⟩
  have s:=(s2.del 1).ae [3,2,0,0]
  dsimp only[aK,bringA,getA] at s
  refine za rfl (zv (zr rfl (zb rfl (by exact aW (az (by omega) (by omega))) ?_)))
  refine zm rfl (zv (WP.loop (zg rfl (zt rfl (aq rfl rfl aT) (by decide) ?_))))
  refine zk 5 rfl (WP.block (zK 7 rfl (zl rfl (s.cK (k:=0) rfl b_ bI) (zm rfl (zc rfl (Eu (i:=1) (c:=c1) I s (k:=1) rfl hX J rfl) ?_)))))
  rintro r h' ⟨f1,rfl,GY,s⟩
  refine zc rfl (y8 I (s.ae [1]) GY (by omega)) ?_
  intro u1 h s
  have hu1:=(s.buf (k:=0) rfl).view.cells
  have s:=s.ae [3]
  dsimp only[aK,bringA,getA] at s
  obtain⟨iv1,h1,tQ,s1⟩:=kj (P:=Tryz.prog) (k:=1) (x:=u1) s gV rX iF rfl (by decide) (by decide) (by grind) (by grind)
  rw[hu1.1] at s1
  refine au.any rfl rfl rfl (OpR.of (R:=fun v h'=>v=iv1∧h'=h1) (mC rfl tQ) ⟨rfl,rfl⟩) ?_
  rintro v' h' ⟨rfl,rfl⟩
  obtain⟨av1,h2,om,s2⟩:=g_ (s1.ae [1,0]) gV jX rX jd (by omega) rfl (by decide) (by simp)
  dsimp only[List.cons_append,List.nil_append,aK,bringA] at s2
  refine au.any rfl rfl rfl (OpR.of (R:=fun v h'=>v=av1∧h'=h2) (ox rfl rfl om) ⟨rfl,rfl⟩) ?_
  rintro v' h ⟨rfl,rfl⟩
  have s:=(s2.del 1).ae [3,2,0,1,0]
  dsimp only[aK,bringA,getA] at s
  refine za rfl (zv (zr rfl (zb rfl (by exact aW (az (by omega) (by omega))) ?_)))
  refine zm rfl (zv (WP.loop (zg rfl (zh rfl (aq rfl rfl aT) (by decide) ?_))))
  exact zk 3 rfl (WP.exit (zK 6 rfl (WP.ret ⟨aa,_,rfl,_,_,_,rfl,(s.ae [2,2,2,1]).del 4⟩)))
 ·rw[J.good] at hg;cases hg
end
def Sm (N:Nat)(ε ai:bq): Prop:=(∀m,pgA ai m=pgA ε m)∧(∀P:VP,nV N P→vw P ε→vw P ai)∧bV ai≤bV ε
theorem Sm.refl (N:Nat)(ε:bq): Sm N ε ε:=⟨fun _=>rfl,fun _ _ h=>h,aQ _⟩
theorem Sm.trans {a b c:bq}(h:Sm N a b)(g:Sm N b c): Sm N a c:=⟨fun m=>(g.1 m).trans (h.1 m),fun P I J=>g.2.1 P I (h.2.1 P I J),cu g.2.2 h.2.2⟩
structure C7 (told : cC) (N B : Nat) (rv : V) (A : bq → aP) (pg : bq → Int → List Nat) : Prop where
 iface : ∃ ty u f, rv = .iface ty u ∧ methV Tryz.prog ty "Read" = some f ∧ ∀ {h : H} {S : List aP} {ε : bq} {n : Int}, EI N B ε → 0 ≤ n → n < N → Sat h (A ε :: S) →
  Call ⟨Tryz.prog, told⟩ f [u, .int .i64 n] h fun v h' => ∃ w ai, v = .aO [w, .int .i64 0] ∧ EI N B ai ∧ Sm N ε ai ∧ Sat h' (bp w (pg ε n) :: A ai :: S)
 same : ∀ {ε ai : bq}, Sm N ε ai → ∀ m, pg ai m = pg ε m
structure KY (told : cC) (N : Nat) (lv dd : bq → Prop) (sm : bq → bq → Prop) (rv : V) (A : bq → aP) (pg : bq → Int → List Nat) : Prop where
 iface : ∃ ty u f, rv = .iface ty u ∧ methV Tryz.prog ty "Read" = some f ∧ ∀ {h : H} {S : List aP} {ε : bq} {n : Int}, lv ε → 0 ≤ n → n < N → Sat h (A ε :: S) →
  Call ⟨Tryz.prog, told⟩ f [u, .int .i64 n] h fun v h' => (∃ ai, v = .aO [.aV, .int .i64 9] ∧ dd ai ∧ Sat h' (A ai :: S)) ∨ ∃ w ai, v = .aO [w, .int .i64 0] ∧ lv ai ∧ sm ε ai ∧ Sat h' (bp w (pg ε n) :: A ai :: S)
 same : ∀ {ε ai : bq}, sm ε ai → ∀ m, pg ai m = pg ε m
 tr : ∀ {a b c : bq}, sm a b → sm b c → sm a c
abbrev noD : bq→Prop:=fun _=>False
theorem C7.m {told:cC}(I:C7 told N B rv A pg): KY told N (EI N B) noD (Sm N) rv A pg:=by
 obtain⟨ty,u,f,e,hm,J⟩:=I.iface
 exact⟨⟨ty,u,f,e,hm,fun a b c s=>(J a b c s).mono fun _ _ k=>.inr k⟩,I.same,Sm.trans⟩
section
variable {off:Nat} {v c:V} {cs:List V}
theorem Sat.y9 (s:Sat h S)(J:getA S k=some (.arr 1 v cs))(hi:cs[i]?=some c)(hu:P.underlying t=some (.slice te))(I:bB P te=some 1)(e:indexAddrV P t v (.int .i64 (i:Int))=some (.ptr id off))(ha:isAggT P t'=some false): loadV P h t' (.ptr id off)=some c:=by
 grind[iH]
theorem Vs {s d:TypeId}{x:Operand}{r:V}{h₁:H}(I:bf E x=some v)(J:convV P h s d v=none)(h2:convB P h s d v=some (r,h₁)): opE P E h (.convert s d x)=some (r,h₁):=by
 grind[opE,i_]
end
def fC : List Nat:=[109,117,110,105,109,101,110,116]
theorem Sj : buildSliceV Tryz.prog h 23 8 [(0,.int .u8 109),(1,.int .u8 117),(2,.int .u8 110),(3,.int .u8 105),(4,.int .u8 109),(5,.int .u8 101),(6,.int .u8 110),(7,.int .u8 116)]=some (.sl h.next 0 8 (.exact 8),newRow h (ofBytes fC)):=by
 simp only[buildSliceV,aN,eT,tD,V.cells]
 rfl
theorem Gn {x y:Operand}{b:Nat}(I:0<b)(hw:a<9223372036854775808): binV P h .quo t x y (.int .i64 (a:Int)) (.int .i64 (b:Int))=some (.int .i64 ((a/b:Nat):Int)):=by
 simp only[binV,ikBeq,ah,intV]
 have:intBeq (b:Int) 0=false:=by rw[nD];simp;omega
 have J:a/b≤a:=Nat.div_le_self a b
 grind[az]
section
variable {told:cC} {v:V} {kd:Nat} {sm:bq→bq→Prop}
theorem Ig (J:W told)(s:Sat h S): Call ⟨Tryz.prog,told⟩ 148 [] h fun r h'=>Sat h' (.c9 r fC::S):=by
 refine Call.of_wp (J.free _ rfl) Tryz.func148 rfl rfl (zK 6 rfl (au.any rfl rfl rfl (OpR.of (R:=fun v h'=>v=.sl h.next 0 8 (.exact 8)∧h'=newRow h (ofBytes fC)) (mC rfl Sj) ⟨rfl,rfl⟩) ?_))
 rintro v I ⟨rfl,rfl⟩
 have s1:Sat (newRow h (ofBytes fC)) (pt h.next (.cells 8 (ofBytes fC) false)::S):=s.new _
 generalize newRow h (ofBytes fC)=I at s1
 generalize h.next=id at s1
 have hg:=s1.row (k:=0) rfl
 have e1:convB Tryz.prog I 23 23 (.sl id 0 8 (.exact 8))=some (.sl id 0 8 (.exact 8),I.put id (some (.cells 8 (ofBytes fC) true))):=by
  simp only[convB,aN,Tryz.underlying5,hg]
  rfl
 have e0:convV Tryz.prog I 23 23 (.sl id 0 8 (.exact 8))=none:=by
  simp only[convV,aN]
 have s2:Sat (I.put id (some (.cells 8 (ofBytes fC) true))) (pt id (.cells 8 (ofBytes fC) true)::S):=s1.put (k:=0) rfl
 have s3:Sat (I.put id (some (.cells 8 (ofBytes fC) true))) (.c9 (.sl id 0 8 (.exact 8)) fC::S):=s2.freeze.j5 (B:=.c9 (.sl id 0 8 (.exact 8)) fC) fun m r hm=>⟨by decide,.inr ⟨id,0,.exact 8,8,_,true,rfl,hm,rfl,by decide,rfl,by decide⟩⟩
 refine au.any rfl rfl rfl (OpR.of (R:=fun v h'=>v=.sl id 0 8 (.exact 8)∧h'=I.put id (some (.cells 8 (ofBytes fC) true))) (Vs rfl e0 e1) ⟨rfl,rfl⟩) ?_
 rintro v h2 ⟨rfl,rfl⟩
 exact zk 2 rfl (WP.ret ⟨aa,_,rfl,s3⟩)
theorem Pq (J:W told)(hx:View h x l)(hy:View h y c): Call ⟨Tryz.prog,told⟩ 204 [x,y] h fun r h'=>r=.bool (decide (l=c))∧h'=h:=by
 refine Call.of_wp (J.free _ rfl) Tryz.func204 rfl rfl (zK 7 rfl (zo rfl (bO rfl (cvS hx)) (zm rfl (zo rfl (bO rfl (cvS hy)) ?_))))
 by_cases I:l=c
 ·skip
  exact zB rfl TB (decide_eq_true I) (zk 2 rfl (WP.ret ⟨aa,_,rfl,by rw[e_ I],rfl⟩))
 ·skip
  exact zC rfl TB (decide_eq_false I) (zk 2 rfl (WP.ret ⟨aa,_,rfl,by rw[fQ I],rfl⟩))
theorem Pr (I:W told)(J:1≤n)(h2:n≤3000): Call ⟨Tryz.prog,told⟩ 146 [.int .i64 (n:Int)] h fun r h'=>r=.int .i64 2∧h'=h:=by
 have e:(n+2999)/3000=1:=by omega
 refine Call.of_wp (I.free _ rfl) Tryz.func146 rfl rfl (zK 7 rfl (zb rfl (by exact aW (az (by omega) (by omega))) ?_))
 refine zb rfl (by exact g9 (az (by omega) (by omega))) ?_
 refine zo rfl (aq (r:=.int .i64 (((n+2999)/3000:Nat):Int)) rfl rfl (by rw[show(n:Int)+3000-1=((n+2999:Nat):Int) by omega];exact Gn (by decide) (by omega))) ?_
 rw[e]
 refine zb rfl (by exact aW (az (by omega) (by omega))) ?_
 exact zk 2 rfl (WP.ret ⟨aa,_,rfl,rfl,rfl⟩)
theorem Vt (hT:W told)(hR:KY told N lv dd sm rv A pg)(iI:lv ε)(hN:1≤N)(hp:dX (pg ε 0) 201 n extra [fC,R])(C8:R.length=64)(s:Sat h (A ε::S)):
  Call ⟨Tryz.prog,told⟩ 144 [rv] h fun v h'=>(∃ai,v=.aO [.aV,.int .i64 0,.bool false,.int .i64 9]∧Sat h' (A ai::S)∧dd ai)∨∃u ai,v=.aO [u,.int .i64 (n:Int),.bool true,.int .i64 0]∧lv ai∧sm ε ai∧Sat h' (bp u R::A ai::S):=by
 obtain⟨ty,u,f,rfl,hm,kB⟩:=hR.iface
 refine Call.of_wp (hT.free _ rfl) Tryz.func144 rfl rfl (zK 10 rfl (au.any rfl rfl rfl (OpR.invoke rfl rfl rfl hm rfl (kB iI (by decide) (by omega) s)) ?_))
 rintro v h (⟨ai,rfl,hd,s⟩|⟨u,ai,rfl,KE,hs,s⟩)
 ·skip
  refine zk 10 rfl (zB rfl aA (by decide) ?_)
  exact zk 10 rfl (WP.ret ⟨aa,_,rfl,.inl ⟨ai,rfl,s,hd⟩⟩)
 refine zk 10 rfl (zC rfl aA (rfl) (zk 6 rfl (zc rfl (MC hT s (aY _ _) hp) ?_)))
 rintro v h ⟨w,u0,u1,rfl,s⟩
 obtain⟨Ps,I,g1,g2⟩:=iH (P:=Tryz.prog) s (k:=0) (i:=0) (c:=u0) rfl rfl gV iF
 obtain⟨id1,J,g3,g4⟩:=iH (P:=Tryz.prog) s (k:=0) (i:=1) (c:=u1) rfl rfl gV iF
 have hbw:=(s.jk (j:=0) rfl).2.2
 have r7:=eM (s.buf (k:=1) rfl).view
 refine zk 8 rfl ?_
 have s0:=s
 refine WP.drawn [af,af,af,af,af,af,af,af,some (0,2),some (0,2),some (0,2),af,af,af,af,af,af,af,af,af,af,af] rfl (by kernel_rfl) (by kernel_rfl) ?_
 refine zM rfl (ax.mG rfl rfl rfl rfl (aq rfl rfl aA) (by decide) ?_)
 refine zM rfl (zM rfl (zO rfl (a_ rfl rfl rfl (s.fN (n:=2) (j:=0) rfl rfl (by decide) gV)) ?_))
 refine ax.mG rfl rfl rfl rfl (aq rfl rfl aA) (by decide) ?_
 refine zO rfl (qx rfl rfl) (zM rfl (zM rfl (zO rfl (cZ (r:=.ptr Ps I) rfl rfl g1) (zL rfl (s.y9 (k:=0) (i:=0) rfl rfl gV iF g1 b8) (ax.any rfl rfl rfl rfl (OpR.call rfl rfl rfl rfl (Ig hT s)) ?_)))))
 intro mv h s
 have s:=s.ae [1,1,1,1,1,0]
 have s1:=s
 refine ax.any rfl rfl rfl rfl (OpR.call rfl rfl rfl rfl (Pq hT (s.buf (k:=1) rfl).view (s.aI (k:=5) rfl (eZ _ _)))) ?_
 rintro r h' ⟨rfl,rfl⟩
 rw[show decide (fC=fC)=true from e_ rfl]
 refine zO rfl (dM rfl rfl) (zO rfl (qx rfl rfl) (zM rfl (zM rfl (zO rfl (cZ (r:=.ptr id1 J) rfl rfl g3) (zL rfl (s.y9 (k:=0) (i:=1) rfl rfl gV iF g3 b8) (zO rfl (a_ rfl rfl rfl (bA aN (s.aI (k:=2) rfl (aY _ _)))) ?_))))))
 rw[C8]
 refine ax.mG rfl rfl rfl rfl (aq rfl rfl aA) (by decide) ?_
 refine zO rfl (qx rfl rfl) ?_
 refine ax.nil ⟨⟨aa,aa,aa,aa,aa,aa,aa,aa,fun _ _=>.inr ⟨rfl,⟨_,aS rfl⟩,hbw⟩,fun _ _=>.inr ⟨rfl,⟨_,cZ (r:=.ptr Ps I) rfl rfl g1⟩,aB _ rfl⟩,dJ (.inr ⟨rfl,⟨_,aH rfl (s0.y9 (k:=0) (i:=0) rfl rfl gV iF g1 b8)⟩,r7⟩) (.inr ⟨rfl,⟨_,aH rfl (s1.y9 (k:=0) (i:=0) rfl rfl gV iF g1 b8)⟩,r7⟩),aa,aa,aa,aa,aa,aa,aa,aa,aa,aa,aa,aa⟩,?_⟩
 refine zK 5 rfl ?_
 have BZ:=hp.len
 refine zc rfl (Ky hT (s.ae [3]) (aY _ _) (by omega)) ?_
 rintro v h ⟨s,(⟨hg,rfl⟩|⟨hg,rfl⟩)⟩
 ·rw[show(pg ε 0).getD 12 0=201 from hp.kind,show dg (pg ε 0) 18 4=n from hp.link]
  have s:=s.ae [1,1,1,1,0]
  refine zk 16 rfl (zC rfl aA (by decide) ?_)
  exact zk 6 rfl (zo rfl (cZ (r:=.ptr id1 J) rfl rfl g3) (zl rfl (s.y9 (k:=0) (i:=1) rfl rfl gV iF g3 b8) (zk 6 rfl (WP.ret ⟨aa,_,rfl,.inr ⟨_,ai,rfl,KE,hs,(((((s.ae [2,2]).del 5).del 4).del 3).del 2)⟩⟩))))
 ·rw[hp.good] at hg;cases hg
theorem Ih (hT:W told)(hR:KY told N lv dd sm rv A pg)(J:lv ε)(hN:1≤N)(hp:dX (pg ε 0) 201 n extra [fC,R])(C8:R.length=64)(s:Sat h (A ε::S)):
  Call ⟨Tryz.prog,told⟩ 200 [rv] h fun v h'=>(∃ai,v=.aO [.aV,.int .i64 0,.int .i64 9]∧Sat h' (A ai::S)∧dd ai)∨∃u ai,v=.aO [u,.int .i64 (n:Int),.int .i64 0]∧lv ai∧sm ε ai∧Sat h' (bp u R::A ai::S):=by
 refine Call.of_wp (hT.free _ rfl) Tryz.func200 rfl rfl (zK 9 rfl (zc rfl (Vt hT hR J hN hp C8 s) ?_))
 rintro v h (⟨ai,rfl,s,hd⟩|⟨u,ai,rfl,I,hs,s⟩)
 ·skip
  refine zk 11 rfl (WP.block (zK 3 rfl (zB rfl aA (by decide) ?_)))
  exact zk 10 rfl (WP.ret ⟨aa,_,rfl,.inl ⟨ai,rfl,s,hd⟩⟩)
 refine zk 9 rfl (zv (zw (WP.block (zg rfl (zm rfl (zh rfl (aq rfl rfl aA) (rfl) (za rfl (zv (zj rfl (zg rfl (zm rfl (zo rfl (dM rfl rfl) (za rfl (zv (zj rfl (WP.skip (zg rfl (zk 5 rfl (zv ?_)))))))))))))))))))
 refine WP.ret ⟨aa,_,rfl,?_⟩
 exact .inr ⟨u,ai,rfl,I,hs,s⟩
theorem Vu (hT:W told)(hR:C7 told N B rv A pg)(I:EI N B ε)(hN:1≤N)(hp:dX (pg ε 0) 201 n extra [fC,R])(J:R.length=64)(s:Sat h (A ε::S)):
  Call ⟨Tryz.prog,told⟩ 200 [rv] h fun v h'=>∃u ai,v=.aO [u,.int .i64 (n:Int),.int .i64 0]∧EI N B ai∧Sm N ε ai∧Sat h' (bp u R::A ai::S) :=
 (Ih hT hR.m I hN hp J s).mono fun _ _ k=>k.resolve_left fun⟨_,_,_,q⟩=>q
theorem KZ (hT:W told)(hR:KY told N lv dd sm rv A pg)(J:lv ε)(hN:2≤N)(hp:dX (pg ε 1) kd link extra [M])(hM:M.length=375)(s:Sat h (A ε::S)):
  Call ⟨Tryz.prog,told⟩ 222 [rv,.int .i64 0] h fun v h'=>(∃ai,v=.aO [.aV,.aV,.int .i64 9]∧Sat h' (A ai::S)∧dd ai)∨∃w u ai,v=.aO [w,u,.int .i64 0]∧lv ai∧sm ε ai∧Sat h' (bp u M::bp w (pg ε 1)::A ai::S):=by
 obtain⟨ty,u,f,rfl,hm,kB⟩:=hR.iface
 refine Call.of_wp (hT.free _ rfl) Tryz.func222 rfl rfl (zK 11 rfl (zb rfl (by exact aW (az (by omega) (by omega))) ?_))
 refine au.any rfl rfl rfl (OpR.invoke rfl rfl rfl hm rfl (kB (n:=1) J (by decide) (by omega) s)) ?_
 rintro v h (⟨ai,rfl,hd,s⟩|⟨w,ai,rfl,I,hs,s⟩)
 ·skip
  refine zk 9 rfl (zB rfl aA (by decide) ?_)
  exact zk 9 rfl (WP.ret ⟨aa,_,rfl,.inl ⟨ai,rfl,s,hd⟩⟩)
 refine zk 9 rfl (zC rfl aA (rfl) (zk 6 rfl (zc rfl (Ie (i:=0) hT s (aY _ _) hp rfl) ?_)))
 rintro v h ⟨u,rfl,s⟩
 refine zk 10 rfl (zC rfl aA (rfl) (zk 2 rfl (zo rfl (a_ rfl rfl rfl (bA aN (s.aI (k:=0) rfl (aY _ _)))) ?_)))
 rw[hM]
 refine zC rfl aA (by decide) ?_
 exact zk 12 rfl (WP.ret ⟨aa,_,rfl,.inr ⟨w,u,ai,rfl,I,hs,s⟩⟩)
theorem K0 (J:W told)(hR:C7 told N B rv A pg)(iI:EI N B ε)(hN:1≤N)(hp:dX (pg ε 0) 201 n extra [fC,R])(C8:R.length=64){i:Int}(TS : -1≤i)(jX:i≤16)(s:Sat h (A ε::S)):
  Call ⟨Tryz.prog,told⟩ 140 [rv,.int .i64 i] h fun v h'=>∃ai,v=(if 0≤i∧i<16 then .aO [.int .i64 (dg R (4*i.toNat) 4:Nat),.int .i64 0] else .aO [.int .i64 0,.int .i64 1])∧EI N B ai∧Sm N ε ai∧Sat h' (A ai::S):=by
 refine Call.of_wp (J.free _ rfl) Tryz.func140 rfl rfl (zK 8 rfl (zc rfl (Vu J hR iI hN hp C8 s) ?_))
 rintro v h ⟨u,ai,rfl,I,hs,s⟩
 refine zk 9 rfl (WP.block (zK 3 rfl (zC rfl aA (rfl) (zk 6 rfl ?_))))
 by_cases h0:i<0
 ·skip
  refine zB rfl aT (by grind) ?_
  exact zk 12 rfl (WP.ret ⟨aa,_,rfl,ai,by grind,I,hs,s.drop⟩)
 ·skip
  refine zC rfl aT (by grind) ?_
  refine zk 2 rfl ?_
  by_cases h1:16≤i
  ·skip
   refine zB rfl jj (by grind) ?_
   exact zk 9 rfl (WP.ret ⟨aa,_,rfl,ai,by grind,I,hs,s.drop⟩)
  ·skip
   refine zC rfl jj (by grind) ?_
   refine zk 2 rfl (zv (zj rfl (WP.skip (zg rfl (zk 2 rfl (zb rfl (by exact iE (az (by omega) (by omega))) ?_))))))
   refine zm rfl (zb rfl (by exact aW (az (by omega) (by omega))) ?_)
   refine zb rfl (by exact iE (az (by omega) (by omega))) ?_
   obtain⟨k,rfl⟩:∃k:Nat,i=k:=⟨i.toNat,by omega⟩
   have hv:=(s.buf (k:=0) rfl).view
   have q1:(4*(k:Int)).toNat=4*k:=by omega
   have q2:(4*((k:Int)+1)).toNat=4*k+4:=by omega
   refine zo rfl (cj (p:=some (.int .i64 (4*(k:Int)))) (q:=some (.int .i64 (4*((k:Int)+1)))) (m:=none) (p':=some (4*k)) (q':=some (4*k+4)) (m':=none) rfl rfl rfl rfl (by rfl) (by rfl) rfl (cR hv (by omega) (by omega)).1) ?_
   refine zc rfl (pn J s (k:=0) rfl (jW (aY _ _) (a:=4*k) (b:=4*k+4) (by omega) (by omega)) (by grind)) ?_
   rintro v h' ⟨rfl,rfl⟩
   have cJ:=yJ (a:=4*k) (z:=4) hv.1
   have ea:leN ((R.take (4*k+4)).drop (4*k))=dg R (4*k) 4:=rfl
   rw[ea]
   refine zo rfl (bO rfl (by exact gB bM bF (az (by omega) (by omega)))) ?_
   exact zk 3 rfl (WP.ret ⟨aa,_,rfl,ai,by grind,I,hs,s.drop⟩)
end
def bt (M:List Nat)(i:Nat): Bool:=(M.getD (i/8) 0).testBit (i%8)
def C9 (M:List Nat)(i:Nat): List Nat:=M.set (i/8) (Nat.lor (M.getD (i/8) 0) (2^(i%8)))
def Pt (M:List Nat)(i:Nat): List Nat:=M.set (i/8) (Nat.land (M.getD (i/8) 0) (255-2^(i%8)))
theorem Ii {b:Nat}(hi:i<M.length): (M.set i b).getD j 0=if i=j then b else M.getD j 0:=by
 grind
theorem Z7 (hi:i/8<M.length): bt (C9 M i) j=if j=i then true else bt M j:=by
 unfold bt C9
 rw[Ii hi]
 by_cases h:i/8=j/8
 ·rw[aC h,show Nat.lor (M.getD (i/8) 0) (2^(i%8))=(M.getD (i/8) 0) ||| (2^(i%8)) from rfl,Nat.testBit_or,Nat.testBit_two_pow,h]
  grind
 ·grind
theorem Z8 (hi:i/8<M.length): bt (Pt M i) j=if j=i then false else bt M j:=by
 unfold bt Pt
 rw[Ii hi]
 by_cases h:i/8=j/8
 ·have e:255-2^(i%8)=2^8-(2^(i%8)+1):=by omega
  have I:2^(i%8)<2^8:=vj (by decide) (by omega)
  rw[aC h,show Nat.land (M.getD (i/8) 0) (255-2^(i%8))=(M.getD (i/8) 0) &&& (255-2^(i%8)) from rfl,Nat.testBit_and,e,Nat.testBit_two_pow_sub_succ I,Nat.testBit_two_pow,h]
  grind
 ·grind
theorem K1 : (C9 M i).length=M.length:=dD
theorem K2 : (Pt M i).length=M.length:=dD
theorem Pu (I:a<256)(J:k<8): Nat.lor a (2^k)<256:=Nat.or_lt_two_pow (n:=8) I (vj (by decide) J)
theorem K3 {c:Nat}(I:a<256): Nat.land a c<256:=Nat.lt_of_le_of_lt Nat.and_le_left I
def mE (x:Nat): Nat:=((List.range 8).filter fun i => !x.testBit i).headD 8
theorem Vv : ∀x,x<255→mE x<8∧x.testBit (mE x)=false∧∀j,j<mE x→x.testBit j=true:=by
 have:∀x,x<255→(decide (mE x<8)&&(!x.testBit (mE x)&&(List.range (mE x)).all fun j=>x.testBit j))=true:=by decide +kernel
 grind
theorem aa8 : ∀x,x<256→(∀j,j<8→x.testBit j=true)→x=255:=by
 have:∀x,x<256→((List.range 8).all fun j=>x.testBit j)=true→x=255:=by decide +kernel
 grind
theorem Gp (I:j<8): bt M (8*k+j)=(M.getD k 0).testBit j:=by
 grind[bt]
section
variable {x y:Operand} {b:Nat}
theorem Yi (I:k<8): binV P h .shl t x y (.int .u8 1) (.int .i64 (k:Int))=some (.int .u8 ((2^k:Nat):Int)):=by
 have J:2^k<256:=vj (a:=2) (n:=8) (by decide) I
 simp only[binV,shiftV,IntKind.bits,b7]
 grind[vS]
theorem Ev {op:BinOp}{f:Nat→Nat→Nat}(I:a<256)(J:b<256)(hf:f a b<256)(he:bitsV op .u8 (a:Int) (b:Int)=some (.int .u8 (IntKind.u8.wrap (f ((a:Int)%(2^(IntKind.u8).bits:Int)).toNat ((b:Int)%(2^(IntKind.u8).bits:Int)).toNat:Nat)))):
  bitsV op .u8 (a:Int) (b:Int)=some (.int .u8 ((f a b:Nat):Int)):=by
 grind[IntKind.bits,vS]
theorem Z9 (I:a<256)(J:k<8): binV P h .or t x y (.int .u8 (a:Int)) (.int .u8 ((2^k:Nat):Int))=some (.int .u8 ((Nat.lor a (2^k):Nat):Int)):=by
 simp only[binV,ikBeq,ah,intV]
 exact Ev (f:=Nat.lor) I (vj (a:=2) (n:=8) (by decide) J) (Pu I J) rfl
theorem Pv (I:a<256)(J:b<256): binV P h .andNot t x y (.int .u8 (a:Int)) (.int .u8 (b:Int))=some (.int .u8 ((Nat.land a (255-b):Nat):Int)):=by
 simp only[binV,ikBeq,ah,intV]
 exact Ev (f:=fun a b=>Nat.land a (255-b)) I J (K3 I) rfl
theorem Pw (I:a<256): unV .xor (.int .u8 (a:Int))=some (.int .u8 ((255-a:Nat):Int)):=by
 have:∀a,a<256→Nat.xor 255 a=255-a:=by decide +kernel
 have e:bitsV .xor .u8 ((255:Nat):Int) (a:Int)=some (.int .u8 ((Nat.xor 255 a:Nat):Int)):=Ev (f:=Nat.xor) (by decide) I (by grind) rfl
 rw[this a I] at e
 exact e
theorem Yj {f:Nat→Nat}(hu:P.underlying t=some .string)(I:∀x,x<256→nth L x=some (f x))(J:a<256): indexV P t (.str L) (.int .u8 (a:Int))=some (.int .u8 ((f a:Nat):Int)):=by
 simp_all[indexV]
end
section
variable {told:cC} {v:V} {kd:Nat}
theorem Px (I:W told)(J:a<256): Call ⟨Tryz.prog,told⟩ 223 [.int .u8 ((255-a:Nat):Int)] h fun r h'=>r=.int .i64 (mE a:Nat)∧h'=h:=by
 have hle:∀a,a<256→mE a≤8:=by decide +kernel
 have hle:=hle a J
 have he:mE (255-(255-a))=mE a:=by rw[show 255-(255-a)=a by omega]
 refine Call.of_wp (I.free _ rfl) Tryz.func223 rfl rfl (zK 7 rfl (zo rfl (yx rfl rfl (Yj (f:=fun x=>mE (255-x)) vX (by decide +kernel) (by omega))) ?_))
 rw[he]
 refine zo rfl (bO rfl (by exact gB Tryz.underlying5 bF (az (by omega) (by omega)))) ?_
 exact zk 2 rfl (WP.ret ⟨aa,_,rfl,rfl,rfl⟩)
noncomputable def lwL : Code:=cm [1,1,1,0,1,0,0,1,1,0,0,1,1,1,1,0,0] ((Tryz.f205.body).getD .skip)
theorem Sk (hT:W told){u:V}(hv:View h u M)(hM:M.length=375)(hn:n≤3000)(rR:lo<n)(h0:bt M lo=false)(h1:∀j,j<lo→bt M j=true): ∀(m k:Nat) (E:List (Nat×V)) (Q:Ex→List (Nat×V)→H→Prop),k+m=lo/8 →
  Has E [(5,.int .i64 (n:Int)),(7,.int .i64 0),(39,u),(40,.int .i64 375),(41,.int .i64 (k:Int))] →
  (∀E',look E' 2=some (.int .i64 (lo:Int))→look E' 3=some (.int .i64 0)→Q .ret E' h)→WP ⟨Tryz.prog,told⟩ 65 (.loop lwL) E h Q:=by
 intro m
 induction m with
 |zero =>
  intro k E Q hk hE hq
  have J:M[k]?=some (M[k]'(by omega)):=bw _
  have I:M.getD k 0=M[k]'(by omega):=by rw[ve,J];rfl
  generalize (M[k]'(by omega))=x at J I
  have hx:x<256:=hv.1 x (bJ J)
  obtain⟨id,off,e1,e2⟩:=fy hv J
  have EY:x≠255:=fun e=>by
   have:=Gp (M:=M) (k:=k) (j:=lo%8) (by omega)
   rw[show 8*k+lo%8=lo by omega,h0,I,e] at this
   have q:∀j,j<8→(255:Nat).testBit j=true:=by decide
   rw[q _ (by omega)] at this;cases this
  obtain⟨w1,w2,w3⟩:=Vv x (by omega)
  have hl:8*k+mE x=lo:=by
   have a1:=Gp (M:=M) (k:=k) (j:=mE x) w1
   rw[I,w2] at a1
   rcases sP (8*k+mE x) lo with q|q
   ·rw[h1 _ q] at a1;cases a1
   ·by_cases q2:lo%8<mE x
    ·have:=w3 _ q2
     have a2:=Gp (M:=M) (k:=k) (j:=lo%8) (by omega)
     rw[show 8*k+lo%8=lo by omega,h0,I,this] at a2;cases a2
    ·omega
  refine WP.loop (WP.has hE (zg rfl (zB rfl aT (by simp;omega) ?_)))
  refine zk 5 rfl (WP.block (zK 3 rfl (zo rfl (cZ (r:=.ptr id off) rfl rfl e1) (zl rfl e2 (zk 6 rfl (zb rfl (by exact iE (az (by omega) (by omega))) ?_))))))
  refine zm rfl (zb rfl (by exact iE (az (by omega) (by omega))) ?_)
  refine zb rfl (by exact aW (az (by omega) (by omega))) ?_
  refine zm rfl (zo rfl (dM rfl (Pw hx)) (zc rfl (Px hT hx) ?_))
  rintro v h' ⟨rfl,rfl⟩
  refine zo rfl (aq (r:=.int .i64 (lo:Int)) rfl rfl (by rw[←hl,show(((8*k+mE x:Nat):Int))=(3000*0+8*(k:Int))+(mE x:Int) by omega];exact aW (az (by omega) (by omega)))) ?_
  refine zk 5 rfl (zB rfl aA (by simp;omega) ?_)
  refine zk 3 rfl (zB rfl aT (by simp;omega) ?_)
  exact zk 9 rfl (WP.ret (hq _ rfl rfl))
 |succ m ih =>
  intro k E Q hk hE hq
  have J:M[k]?=some (M[k]'(by omega)):=bw _
  have I:M.getD k 0=M[k]'(by omega):=by rw[ve,J];rfl
  generalize (M[k]'(by omega))=x at J I
  have hx:x<256:=hv.1 x (bJ J)
  obtain⟨id,off,e1,e2⟩:=fy hv J
  have EY:x=255:=aa8 x hx fun j hj=>by rw[←I,←Gp hj];exact h1 _ (by omega)
  have Yk:∀a,a<256→mE a≤8:=by decide +kernel
  have Yk:=Yk x hx
  refine WP.loop (WP.has hE (zg rfl (zB rfl aT (by simp;omega) ?_)))
  refine zk 5 rfl (WP.block (zK 3 rfl (zo rfl (cZ (r:=.ptr id off) rfl rfl e1) (zl rfl e2 (zk 6 rfl (zb rfl (by exact iE (az (by omega) (by omega))) ?_))))))
  refine zm rfl (zb rfl (by exact iE (az (by omega) (by omega))) ?_)
  refine zb rfl (by exact aW (az (by omega) (by omega))) ?_
  refine zm rfl (zo rfl (dM rfl (Pw hx)) (zc rfl (Px hT hx) ?_))
  rintro v h' ⟨rfl,rfl⟩
  refine zb rfl (by exact aW (az (by omega) (by omega))) ?_
  refine zk 5 rfl (zC rfl aA (by simp;omega) ?_)
  refine zk 5 rfl (zv (zj rfl (WP.skip (zr rfl (zb rfl (by exact aW (az (by omega) (by omega))) ?_)))))
  refine zm rfl (zv ?_)
  exact ih (k+1) _ Q (by omega) ⟨rfl,rfl,rfl,rfl,rfl,aa⟩ hq
end
section
variable {x y:Operand}
theorem Sl (I:n<3000): binV P h .quo t x y (.int .i64 (n:Int)) (.int .i64 3000)=some (.int .i64 0):=by
 have:=Gn (P:=P) (h:=h) (t:=t) (x:=x) (y:=y) (a:=n) (b:=3000) (by decide) (by omega)
 rw[show n/3000=0 by omega] at this;exact this
theorem Yl (I:n<3000): binV P h .rem t x y (.int .i64 (n:Int)) (.int .i64 3000)=some (.int .i64 (n:Int)):=by
 have:=Rw (P:=P) (h:=h) (t:=t) (x:=x) (y:=y) (a:=n) (b:=3000) (by decide)
 rw[show n%3000=n by omega] at this;exact this
end
section
variable {told:cC} {v:V} {kd:Nat} {sm:bq→bq→Prop}
structure j7 (n:Nat)(R M:List Nat)(p:Int→List Nat): Prop where
 head:∃ex,dX (p 0) 201 n ex [fC,R]
 rl:R.length=64
 marks:∃kd lk ex,dX (p 1) kd lk ex [M]
 ml:M.length=375
 n1:2≤n
 n2:n≤2999
 own:∀j,j<2→bt M j=true
 hi:∀j,n≤j→bt M j=false
theorem Sn (hT:W told)(hR:KY told N lv dd sm rv A pg)(iI:lv ε)(hN:2≤N)(hp:j7 n R M (pg ε))(rR:lo<n)(h0:bt M lo=false)(h1:∀j,j<lo→bt M j=true)(s:Sat h (A ε::S)):
  Call ⟨Tryz.prog,told⟩ 205 [rv] h fun v h'=>(∃ai,v=.aO [.int .i64 0,.int .i64 9]∧Sat h' (A ai::S)∧dd ai)∨∃ai,v=.aO [.int .i64 (lo:Int),.int .i64 0]∧lv ai∧sm ε ai∧Sat h' (A ai::S):=by
 obtain⟨ex,qg⟩:=hp.head
 obtain⟨kd,lk,r9,I⟩:=hp.marks
 have hM:=hp.ml
 have xK:=hp.n2
 refine Call.of_wp (hT.free _ rfl) Tryz.func205 rfl rfl (zK 8 rfl (zc rfl (Ih hT hR iI (by omega) qg hp.rl s) ?_))
 rintro v h (⟨J,rfl,s,hd⟩|⟨u,J,rfl,nT,fV,s⟩)
 ·skip
  refine zk 12 rfl (zB rfl aA (by decide) ?_)
  exact zk 8 rfl (WP.ret ⟨aa,_,rfl,.inl ⟨J,rfl,s,hd⟩⟩)
 refine zk 12 rfl (zC rfl aA (rfl) (zk 7 rfl (zc rfl (Pr hT (by omega) (by omega)) ?_)))
 rintro v h' ⟨rfl,rfl⟩
 refine zb rfl (by exact g9 (az (by omega) (by omega))) ?_
 refine zk 2 rfl (WP.block (WP.loop (zg rfl (zB rfl aT (by decide) ?_))))
 have I:dX (pg J 1) kd lk r9 [M]:=by rw[hR.same fV];exact I
 refine zk 5 rfl (WP.block (zK 9 rfl (zc rfl (KZ hT hR nT hN I hM (s.ae [1])) ?_)))
 rintro v h (⟨u6,rfl,s,hd⟩|⟨w2,u2,u6,rfl,tV,qj,s⟩)
 ·skip
  refine zk 12 rfl (zB rfl aA (by decide) ?_)
  exact zk 8 rfl (WP.ret ⟨aa,_,rfl,.inl ⟨u6,rfl,s.del 1,hd⟩⟩)
 refine zk 12 rfl (zC rfl aA (rfl) (zk 6 rfl (zo rfl (a_ rfl rfl rfl (bA aN (s.aI (k:=0) rfl (aY _ _)))) ?_)))
 rw[hM]
 refine zk 2 rfl (WP.block ?_)
 refine Sk hT (s.buf (k:=0) rfl).view hM (by omega) rR h0 h1 (lo/8) 0 _ _ (by omega) ⟨rfl,rfl,rfl,rfl,rfl,aa⟩ (fun E' l2 l3=>⟨aa,_,Mq l2 l3,.inr ⟨u6,rfl,tV,hR.tr fV qj,?_⟩⟩)
 exact((s.ae [2]).del 3 |>.del 2).del 1
end
def SA (a p q r:Nat)(op:V)(data:List Nat)(aE:Nat)(ε:bq): aP:=star [c7 a p q r op data aE,cL r p q ε.1,bx q p ε.2.1,aJ p ε.2.2]
def GA (g a p q r:Nat)(data:List Nat)(aE:Nat)(now:List (Int×List Nat))(ε:bq): aP:=star [eE g a now false,c7 a p q r (.ptr g 0) data aE,cL r p q ε.1,bx q p ε.2.1,aJ p ε.2.2]
def pgG (now:List (Int×List Nat))(ε:bq)(n:Int): List Nat:=match lookL n now with
 |some b=>b
 |none=>pgA ε n
theorem C_ (h:Sm N ε ai): pgG now ai=pgG now ε:=by
 funext n
 unfold pgG
 rw[h.1]
theorem gX {i n:Int}: pgG (cW i b now) ε n=if i=n then b else pgG now ε n:=by
 grind[pgG,kD]
section
variable {told:cC} {p:Nat} {v op:V} {kd:Nat} {sm:bq→bq→Prop}
theorem MD (hT:W told)(hB:B≤2000): C7 told N B (.iface 26 (.ptr a 0)) (SA a p q r op data aE) pgA:=by
 refine⟨⟨_,_,_,rfl,Vf,fun {h S ε n} I h0 h1 s => ?_⟩,fun hs=>hs.1⟩
 have uV:=I.bV
 have TU:=qR (ε:=ε)
 have s:=bg.1 s
 refine(BF hT (n:=n) s I.ok.ok I.ok.pins (by omega)).mono ?_
 rintro v h ⟨e,b,ai,J,hs⟩
 obtain⟨k1,k2,k3,k4⟩:=J.ec I.ec I.ok.pins
 obtain⟨rfl,rfl⟩:=k3 h0 h1
 rcases hs with⟨he,_⟩|⟨_,u,rfl,s⟩
 ·omega
 ·have s2:Sat h (SA a p q r op data aE ai::bp u (pgA ε n)::S):=bg.2 (s.ae [1,1,1,1,0])
  exact⟨u,ai,rfl,I.rd J,⟨k2,fun P hP hv=>hP.rd J I.ec hv,J.bV⟩,s2.ae [1]⟩
theorem Ym (hT:W told)(hB:B≤2000)(hw:NW N now): C7 told N B (.iface 78 (.ptr g 0)) (GA g a p q r data aE now) (pgG now):=by
 refine⟨⟨_,_,_,rfl,En,fun {h S ε n} I h0 h1 s => ?_⟩,fun hs m=>by rw[C_ hs]⟩
 have uV:=I.bV
 have TU:=qR (ε:=ε)
 have s:=bg.1 s
 refine(HQ hT (n:=n) s I.ok (by omega) (fun e he=>gI (hw.good e he).1)).mono ?_
 rintro v h ⟨e,b,ai,J,hs⟩
 obtain⟨k1,k2,k3,k4⟩:=J.ec I.ec I.ok.pins
 obtain⟨rfl,hb⟩:=k3 h0 h1
 have hb:b=pgG now ε n:=hb
 subst hb
 rcases hs with⟨he,_⟩|⟨_,u,rfl,s⟩
 ·omega
 ·have s2:Sat h (GA g a p q r data aE now ai::bp u (pgG now ε n)::S):=bg.2 (s.ae [1,1,1,1,1,0])
  exact⟨u,ai,rfl,I.yY J,⟨k2,fun P hP hv=>hP.yY J I.ec hv,J.bV⟩,s2.ae [1]⟩
theorem Da (hT:W told)(hB:B≤2000)(I:EI N B ε)(hw:NW N now)(hi:i<N)(s:Sat h (GA g a p q r data aE now ε::X::S))(hX:cD X (cE x b))(hp:dX b kd link extra cs):
  Call ⟨Tryz.prog,told⟩ 40 [.ptr g 0,.int .i64 (i:Int),x] h fun v h'=>∃ai,v=.int .i64 0∧EI N B ai∧Sm N ε ai∧NW N (cW (i:Int) b now)∧Sat h' (GA g a p q r data aE (cW (i:Int) b now) ai::X::S):=by
 have uV:=I.bV
 have TU:=qR (ε:=ε)
 have hlen:=hp.len
 have hb:=(s.aI (k:=1) rfl hX).1
 have s:=bg.1 s
 refine(OZ hT (n:=(i:Int)) s hX (by omega) I.ok (by omega) (fun e he=>gI (hw.good e he).1)).mono ?_
 rintro v h ⟨e,dw,ai,J,rfl,s⟩
 obtain⟨k1,k2,k3,k4,k5⟩:=J.ec I.ec I.ok.pins
 obtain⟨rfl,rfl⟩:=k5 (by omega) (by omega) hp.good
 exact⟨ai,rfl,I.O6 J,⟨k2,fun P hP hv=>hP.O6 J I.ec hv,J.bV⟩,hw.put (by omega) (by omega) hp.good hb,bg.2 s⟩
structure Mo (told:cC)(N:Nat)(lv dd:bq→Prop)(sm:bq→bq→Prop): Prop where
 rf:∀a:bq,sm a a
 tr:∀ {a b c:bq},sm a b→sm b c→sm a c
 pg:∀ {a b:bq},sm a b→∀m,pgA b m=pgA a m
 gr:∀ {g a p q r aE:Nat} {data:List Nat} {now:List (Int×List Nat)},NW N now→KY told N lv dd sm (.iface 78 (.ptr g 0)) (GA g a p q r data aE now) (pgG now)
 gw:∀ {h:H} {S:List aP} {X:aP} {g a p q r aE i kd link extra:Nat} {data b:List Nat} {now:List (Int×List Nat)} {x:V} {cs:List (List Nat)} {ε:bq},lv ε→NW N now→i<N→Sat h (GA g a p q r data aE now ε::X::S)→cD X (cE x b)→dX b kd link extra cs →
  Call ⟨Tryz.prog,told⟩ 40 [.ptr g 0,.int .i64 (i:Int),x] h fun v h'=>(∃ai,v=.int .i64 9∧Sat h' (GA g a p q r data aE now ai::X::S)∧dd ai)∨∃ai,v=.int .i64 0∧lv ai∧sm ε ai∧NW N (cW (i:Int) b now)∧Sat h' (GA g a p q r data aE (cW (i:Int) b now) ai::X::S)
 dr:∀ {h:H} {S:List aP} {g a p q r aE:Nat} {data:List Nat} {now:List (Int×List Nat)} {ε:bq} {n:Int},dd ε→NW N now→Sat h (GA g a p q r data aE now ε::S) →
  Call ⟨Tryz.prog,told⟩ 207 [.ptr g 0,.int .i64 n] h fun v h'=>∃(w:V) (e:Int) (ai:bq),v=.aO [w,.int .i64 e]∧dd ai∧Sat h' (GA g a p q r data aE now ai::S)
theorem Mo.live (J:W told)(hB:B≤2000): Mo told N (EI N B) noD (Sm N) :=
 ⟨Sm.refl N,Sm.trans,fun h=>h.1,fun hw=>(Ym J hB hw).m,fun I hw hi s hX hp=>(Da J hB I hw hi s hX hp).mono fun _ _ k=>.inr k,fun hd=>hd.elim⟩
theorem Mo.pgG (I:Mo told N lv dd sm)(h:sm ε ai): Am.pgG now ai=Am.pgG now ε:=by
 funext n
 unfold Am.pgG
 rw[I.pg h]
def Yn (N g a p q r:Nat)(data:List Nat)(aE:Nat)(dd:bq→Prop)(S:List aP)(h:H): Prop:=∃(ε:bq) (now:List (Int×List Nat)),NW N now∧Sat h (GA g a p q r data aE now ε::S)∧dd ε
theorem j7.put {P:Int→List Nat}(h:j7 N R M P){I:List Nat}(J:P' 0=P 0)(h1:∃kd lk ex,dX (P' 1) kd lk ex [I])(hl:I.length=375)(ho:∀j,j<2→bt I j=true)(hh:∀j,N≤j→bt I j=false): j7 N R I P' :=
 ⟨by rw[J];exact h.head,h.rl,h1,hl,h.n1,h.n2,ho,hh⟩
theorem tW {i:Int}: ∀ {now:List (Int×List Nat)},(cW i b now).length≤now.length+1:=by
 intro now
 induction now<;>grind[cW]
theorem Yo (hT:W told)(hM:Mo told N lv dd sm)(iI:lv ε)(hw:NW N now)(hp:j7 N R M (pgG now ε))(hi:i<N)(jd:2≤i){bl:Bool}(s:Sat h (GA g a p q r data aE now ε::S)):
  Call ⟨Tryz.prog,told⟩ 206 [.ptr g 0,.int .i64 (i:Int),.bool bl] h fun v h'=>(v=.int .i64 9∧Yn N g a p q r data aE dd S h')∨∃ai dw,v=.int .i64 0∧lv ai∧sm ε ai∧NW N dw∧dw.length≤now.length+1∧j7 N R (if bl then C9 M i else Pt M i) (pgG dw ai)∧(∀m,m≠1→pgG dw ai m=pgG now ε m) ∧
   Sat h' (GA g a p q r data aE dw ai::S):=by
 obtain⟨kd,lk,r9,y_⟩:=hp.marks
 have Yp:=hp.ml
 have xK:=hp.n2
 have hi8:i/8<M.length:=by omega
 have hb:M[i/8]?=some (M[i/8]'(by omega)):=bw _
 have Bb:M.getD (i/8) 0=M[i/8]'(by omega):=by grind
 generalize (M[i/8]'(by omega))=z at hb Bb
 -- what is so behind it
 have fin:∀ {ai:bq} {b':List Nat} {M':List Nat},sm ε ai→dX b' kd lk r9 [M']→M'.length=375→(∀j,bt M' j=if j=i then bl else bt M j)→j7 N R M' (pgG (cW 1 b' now) ai)∧(∀m,m≠1→pgG (cW 1 b' now) ai m=pgG now ε m):=fun {ai b' M'} hs I hl K4 =>
  ⟨hp.put (by rw[gX,aj (by decide),hM.pgG hs]) ⟨_,_,_,by rw[gX,aC rfl];exact I⟩ hl (fun j hj=>by rw[K4,aj (by omega)];exact hp.own j hj) (fun j hj=>by rw[K4,aj (by omega)];exact hp.hi j hj),
   fun m hm=>by rw[gX,aj (by omega),hM.pgG hs]⟩
 refine Call.of_wp (hT.free _ rfl) Tryz.func206 rfl rfl (zK 7 rfl (zo rfl (qW rfl (mki_of ot rfl)) (zm rfl (zo rfl (aq (r:=.int .i64 0) rfl rfl (Sl (by omega))) ?_))))
 refine zc rfl (KZ hT (hM.gr hw) iI (by omega) y_ Yp s) ?_
 rintro v h (⟨u6,rfl,s,hd⟩|⟨w2,u2,u6,rfl,tV,qj,s⟩)
 ·skip
  refine zk 12 rfl (zB rfl aA (by decide) ?_)
  exact zk 7 rfl (WP.ret ⟨aa,_,rfl,.inl ⟨rfl,u6,now,hw,s,hd⟩⟩)
 have hv:=(s.buf (k:=0) rfl).view
 have hz:z<256:=hv.1 z (bJ hb)
 have h2k:2^(i%8)<256:=vj (a:=2) (n:=8) (by decide) (by omega)
 obtain⟨id,off,e1,e2⟩:=fy hv hb
 refine zk 12 rfl (zC rfl aA (rfl) (zk 6 rfl (zb rfl (Yl (by omega)) ?_)))
 refine zb rfl (Rw (a:=i) (b:=8) (by decide)) ?_
 refine zb rfl (Yi (k:=i%8) (by omega)) ?_
 refine zk 6 rfl (zb rfl (Yl (by omega)) ?_)
 refine zb rfl (Gn (a:=i) (b:=8) (by decide) (by omega)) ?_
 refine zk 6 rfl ?_
 cases bl with
 |true =>
  obtain⟨Py,Ij,e3,h4,e4,s2⟩:=oc s (i:=i/8) (b:=Nat.lor z (2^(i%8))) (by omega) (Pu hz (by omega))
  have ee:V.ptr id off=V.ptr Py Ij:=by grind
  rw[←ee] at e4
  refine zK 4 rfl (zo rfl (cZ (r:=.ptr id off) rfl rfl e1) (zl rfl e2 (zm rfl (zb rfl (Z9 hz (by omega)) ?_))))
  refine zo rfl (cZ (r:=.ptr id off) rfl rfl e1) (zS rfl (⟨h4,e4,s2⟩) ?_)
  rintro h s
  rw[←Bb] at s
  have s:Sat h (bp u2 (C9 M i)::_):=s
  refine zk 6 rfl (zc rfl (AN (i:=0) (c:=M) hT (s.ae [1,0]) (aY _ _) (aY _ _) y_ rfl K1) ?_)
  rintro v h ⟨w3,b',rfl,I,s⟩
  refine zk 9 rfl (zC rfl aA (rfl) (zk 7 rfl (zo rfl (aq (r:=.int .i64 0) rfl rfl (Sl (by omega))) ?_)))
  refine zb rfl (by exact aW (az (by omega) (by omega))) ?_
  refine zm rfl (zc rfl (hM.gw (i:=1) tV hw (by omega) (s.ae [3,0]) (aY _ _) I) ?_)
  rintro v h (⟨J,rfl,s,hd⟩|⟨J,rfl,sg,kH,pG,s⟩)
  ·skip
   exact zk 2 rfl (WP.ret ⟨aa,_,rfl,.inl ⟨rfl,J,now,hw,((s.ae [0]).del 3 |>.del 2).del 1,hd⟩⟩)
  refine zk 2 rfl (WP.ret ⟨aa,_,rfl,?_⟩)
  obtain⟨f1,f2⟩:=fin (hM.tr qj kH) I (by rw[K1];exact Yp) (fun j=>Z7 hi8)
  exact .inr ⟨J,_,rfl,sg,hM.tr qj kH,pG,tW,f1,f2,((s.ae [0]).del 3 |>.del 2).del 1⟩
 |false =>
  obtain⟨Py,Ij,e3,h4,e4,s2⟩:=oc s (i:=i/8) (b:=Nat.land z (255-2^(i%8))) (by omega) (K3 hz)
  have ee:V.ptr id off=V.ptr Py Ij:=by grind
  rw[←ee] at e4
  refine zK 4 rfl (zo rfl (cZ (r:=.ptr id off) rfl rfl e1) (zl rfl e2 (zm rfl (zb rfl (Pv hz h2k) (zo rfl (cZ (r:=.ptr id off) rfl rfl e1) (zS rfl (⟨h4,e4,s2⟩) ?_))))))
  rintro h s
  rw[←Bb] at s
  have s:Sat h (bp u2 (Pt M i)::_):=s
  refine zk 6 rfl (zc rfl (AN (i:=0) (c:=M) hT (s.ae [1,0]) (aY _ _) (aY _ _) y_ rfl K2) ?_)
  rintro v h ⟨w3,b',rfl,I,s⟩
  refine zk 9 rfl (zC rfl aA (rfl) (zk 7 rfl (zo rfl (aq (r:=.int .i64 0) rfl rfl (Sl (by omega))) ?_)))
  refine zb rfl (by exact aW (az (by omega) (by omega))) ?_
  refine zm rfl (zc rfl (hM.gw (i:=1) tV hw (by omega) (s.ae [3,0]) (aY _ _) I) ?_)
  rintro v h (⟨J,rfl,s,hd⟩|⟨J,rfl,sg,kH,pG,s⟩)
  ·skip
   exact zk 2 rfl (WP.ret ⟨aa,_,rfl,.inl ⟨rfl,J,now,hw,((s.ae [0]).del 3 |>.del 2).del 1,hd⟩⟩)
  refine zk 2 rfl (WP.ret ⟨aa,_,rfl,?_⟩)
  obtain⟨f1,f2⟩:=fin (hM.tr qj kH) I (by rw[K2];exact Yp) (fun j=>Z8 hi8)
  exact .inr ⟨J,_,rfl,sg,hM.tr qj kH,pG,tW,f1,f2,((s.ae [0]).del 3 |>.del 2).del 1⟩
theorem Vw (hT:W told)(J:Mo told N lv dd sm)(iI:lv ε)(hw:NW N now)(hp:j7 N R M (pgG now ε))(rR:lo<N)(h0:bt M lo=false)(h1:∀j,j<lo→bt M j=true)(s:Sat h (GA g a p q r data aE now ε::S)):
  Call ⟨Tryz.prog,told⟩ 150 [.ptr g 0] h fun v h'=>(v=.aO [.int .i64 0,.int .i64 9]∧Yn N g a p q r data aE dd S h')∨∃ai dw,v=.aO [.int .i64 (lo:Int),.int .i64 0]∧lv ai∧sm ε ai∧NW N dw∧dw.length≤now.length+2∧j7 N R (C9 M lo) (pgG dw ai)∧(∀m,m≠1→m≠(lo:Int)→pgG dw ai m=pgG now ε m)∧dX (pgG dw ai lo) 0 0 0 []∧pgG dw ai lo=uZ 0 ∧
   Sat h' (GA g a p q r data aE dw ai::S):=by
 have CJ:=hp.n1
 have h2:2≤lo:=by
  rcases sP lo 2 with hq|hq
  ·rw[hp.own lo hq] at h0;cases h0
  ·exact hq
 refine Call.of_wp (hT.free _ rfl) Tryz.func150 rfl rfl (zK 8 rfl (zo rfl (qW rfl (mki_of ot rfl)) (zc rfl (Sn hT (J.gr hw) iI (by omega) hp rR h0 h1 s) ?_)))
 rintro v h (⟨oJ,rfl,s,hd⟩|⟨oJ,rfl,nT,fV,s⟩)
 ·skip
  refine zk 7 rfl (WP.block (zK 3 rfl (zB rfl aA (by decide) ?_)))
  exact zk 9 rfl (WP.ret ⟨aa,_,rfl,.inl ⟨rfl,oJ,now,hw,s,hd⟩⟩)
 have y_:j7 N R M (pgG now oJ):=by rw[J.pgG fV];exact hp
 refine zk 7 rfl (WP.block (zK 3 rfl (zC rfl aA (rfl) (zk 6 rfl (zC rfl aT (by simp) ?_)))))
 refine za rfl (zv (zj rfl (WP.skip (zw (zg rfl (zk 2 rfl (zc rfl (Yo (bl:=true) hT J nT hw y_ rR h2 s) ?_)))))))
 rintro v h (⟨rfl,hd⟩|⟨u6,Yq,rfl,tV,qj,xO,iQ,I,Ft,s⟩)
 ·skip
  refine zk 5 rfl (zB rfl aA (by decide) ?_)
  exact zk 8 rfl (WP.ret ⟨aa,_,rfl,.inl ⟨rfl,hd⟩⟩)
 refine za rfl (zv (zg rfl (zm rfl (zh rfl (aq rfl rfl aA) (rfl) (zv (zj rfl (WP.skip (zg rfl (zc rfl (FB (kd:=0) hT s (by decide)) ?_)))))))))
 rintro v h ⟨u,rfl,s⟩
 have nN:dX (uZ 0) 0 0 0 []:=dX.new (k:=0)
 generalize hbn:uZ 0=b' at s nN
 refine zk 12 rfl (zc rfl (J.gw (i:=lo) tV xO rR (s.ae [1,0]) (aY _ _) nN) ?_)
 rintro v h (⟨xm,rfl,s,hd⟩|⟨xm,rfl,sg,kH,pG,s⟩)
 ·skip
  refine zk 5 rfl (zB rfl aA (by decide) ?_)
  exact zk 8 rfl (WP.ret ⟨aa,_,rfl,.inl ⟨rfl,xm,Yq,xO,s.del 1,hd⟩⟩)
 refine zk 5 rfl (zC rfl aA (rfl) (zk 9 rfl (WP.ret ⟨aa,_,rfl,?_⟩)))
 have I:j7 N R (C9 M lo) (pgG Yq u6):=I
 refine .inr ⟨xm,_,rfl,sg,J.tr (J.tr fV qj) kH,pG,cu tW (by omega),I.put (by rw[gX,aj (by omega),J.pgG kH]) ?_ I.ml I.own I.hi,fun m Fb Tm=>by rw[gX,aj (by omega),J.pgG kH,Ft m Fb,J.pgG fV],by grind[gX],by rw[gX,aC rfl],s.del 1⟩
 rw[gX,aj (by omega),J.pgG kH]
 exact I.marks
theorem Pz (hT:W told)(hB:B≤2000)(I:EI N B ε)(hw:NW N now)(hp:j7 N R M (pgG now ε))(J:lo<N)(h0:bt M lo=false)(h1:∀j,j<lo→bt M j=true)(s:Sat h (GA g a p q r data aE now ε::S)):
  Call ⟨Tryz.prog,told⟩ 150 [.ptr g 0] h fun v h'=>∃ai dw,v=.aO [.int .i64 (lo:Int),.int .i64 0]∧EI N B ai∧Sm N ε ai∧NW N dw∧dw.length≤now.length+2∧j7 N R (C9 M lo) (pgG dw ai)∧(∀m,m≠1→m≠(lo:Int)→pgG dw ai m=pgG now ε m)∧dX (pgG dw ai lo) 0 0 0 []∧pgG dw ai lo=uZ 0 ∧
   Sat h' (GA g a p q r data aE dw ai::S) :=
 (Vw hT (Mo.live hT hB) I hw hp J h0 h1 s).mono fun _ _ k=>k.resolve_left fun⟨_,_,_,_,_,q⟩=>q
end
theorem ME : h_ (List.replicate 512 0)=0:=by rw[h_,aC rfl]
def fresh (n m f:Nat): bq:=(Pl.fresh f,(Lg.fresh,Dk.fresh n m))
theorem Ik {m:Nat}(k:Int): (Dk.fresh n m).at k=List.replicate 512 0:=by
 rw[Dk.at,show lookL k (Dk.fresh n m).now=none from rfl]
 simp only[Dk.fresh]
 cases I:(List.replicate n (none:Option (List Nat)))[k.toNat]? with
 |none=>rfl
 |some o =>
  have:=vg (bJ I)
  subst this
  rfl
theorem FC {m:Nat}(k:Int): pgA (fresh n m f) k=List.replicate 512 0:=by
 rw[m8 (by rfl)]
 exact Ik k
theorem Il {x:Fm}(h:(Pl.fresh f).ag[i]?=some x): x=eR:=vg (bJ h)
theorem EI.fresh {m:Nat}(hn:n≤65536)(hm:m≤16777216)(hf:1≤f)(Yr:f≤1024): EI n 1 (fresh n m f):=by
 have J:∀x∈(Pl.fresh f).ag,x=eR:=fun x I=>vg I
 have hlen:(Pl.fresh f).ag.length=f:=fD
 refine⟨⟨⟨⟨(show 0<(Pl.fresh f).ag.length by rw[hlen];omega),(show(Pl.fresh f).ag.length≤1024 by rw[hlen];exact Yr),fun e he=>(by cases he),fun x I=>by rw[J x I];decide,fun x I=>by rw[J x I];decide⟩,Lg.HY,?_⟩,fun x I=>by rw[J x I];rfl,⟨oP,fun k i hk=>(by cases hk)⟩⟩,⟨?_,oP,fun k i hk=>(by cases hk),fun i x I=>.inl (by rw[Il I];decide),fun k hk=>(by cases hk),oP⟩,⟨rfl,aQ _,(show(1:Nat)+0≤1*1048600 by decide)⟩,?_⟩
 ·exact⟨(show(-1:Int)<4294967296 by decide),gR _,hm,fun e he=>(by cases he),fun i b hb=>(by have h1:some b=none:=vg (bJ hb);cases h1),aQ _,(show(List.replicate n (none:Option (List Nat))).length≤65536 by rw[fD];exact hn)⟩
 ·exact⟨rfl,(show(-1:Int)<0 by decide),fD,fun k hk=>(by cases hk),oP,fun k h0 h1=>by show h_ ((Dk.fresh n m).at k)=0;rw[Ik];exact ME⟩
 ·have e:gq (Pl.fresh f).ag=0:=by
   rw[gq,List.count_eq_zero]
   intro hh
   obtain⟨x,I,hc⟩:=List.mem_map.1 hh
   rw[J x I] at hc
   cases hc
  show([]:List Wr).length+gq (Pl.fresh f).ag≤_
  rw[e];decide
theorem wg (h:n<128): (digits 9 n).length=1:=by
 grind[digits]
theorem K5 (h:n<16384): (digits 9 n).length≤2:=by
 grind[digits]
theorem BK {c:cO}(I:c.bj.toNat<16384)(J:c.pos.toNat<16384)(h3:c.b.length<16384): (jl c).length≤7+c.b.length:=by
 grind[K5,jl]
theorem Vx {pg:Int}{now:List Nat}{l:List cO}(I:xM pg ff now i l)(hn:now.length=512)(hp:pg.toNat<16384): ∀j,(∀k,i≤k→k<j→ff[k]?=now[k]?)→j≤520→(l.flatMap jl).length≤520-max i j:=by
 induction I with
 |done i h=>simp
 |skip i l h he I ih =>
  grind
 |take i e l h1 h2 h3 h4 I ih =>
  intro j hj hj2
  have A6:j≤i:=vn fun J=>h3 (hj i (aQ _) J)
  have h5:=ih (e+8) h4 (by omega)
  have hl:((now.take e).drop i).length=e-i:=by grind
  have h6:=BK (c:=⟨pg,i,false,(now.take e).drop i⟩) hp (by grind) (by grind)
  rw[qq,bY]
  simp only[hl] at h6
  omega
theorem Vy {pg:Int}{now:List Nat}{c:List cO}(I:O1 pg ff now c)(J:now.length=512)(hp:pg.toNat<16384): (c.flatMap jl).length≤520:=by
 obtain⟨l,hl,rfl⟩:=I
 have:=Vx hl J hp 0 (fun k _ h=>absurd h (by omega)) (by omega)
 grind[BK]
theorem jg.Ys {l:List Int}{cs:List cO}(J:jg now l ε e cs ai)(hn:NW N now): (∀n∈l,n.toNat<16384)→(cs.flatMap jl).length≤520*l.length:=by
 induction J with
 |nil ε=>simp
 |err n l ε e b ai J he=>simp
 |part n l ε ff b ai c e cs I J hb iJ hc jC ht ih =>
  intro hl
  have h1:=Vy hc (gI (hn.look hb).1) (hl n c8)
  grind
 |whole n l ε ff b ai e cs I J hb iJ ht ih =>
  have nN:=gI (hn.look hb).1
  grind[BK]
theorem BL {L:Nat}{cs:List cO}{kd:Int}(hr:jg now (aX now) ε e cs ai)(I:NW N now)(hL:now.length≤L)(hN:N≤16384)(ht:tx<16384): (cI kd tx 0 0 [] cs).length≤520*L+20:=by
 have h2:=K5 ht
 have h4:=wg (n:=([]:List Nat).length) (by decide)
 have h5:=uY cs.length
 have h6:=hr.Ys I fun n hm=>by have:=I.keys n (iy.1 hm);omega
 have J:(aX now).length≤L:=by
  rw[aX,(eP _).length_eq,eL];exact hL
 have J:=Du 520 J
 simp only[cI,bY,bn,cr] at h4 ⊢
 omega
theorem lX (K M:Nat): lG fun x=>x.2.log.length=K∧x.2.room=M:=by
 refine⟨fun x n h => ?_,fun x n b h => ?_⟩
 ·unfold bG Dk.fP
  split
  ·exact h
  ·split
   ·exact h
   ·split
    ·exact h
    ·split<;>first|exact h|exact h
 ·unfold Dk.dx
  split
  ·exact h
  ·split
   ·exact h
   ·split<;>exact h
def xP (K M:Nat)(ε:bq): Prop:=ε.2.2.log.length≤K∧ε.2.2.room=M
theorem xP.sm {M:Nat}(h:xP K M ε)(hs:Sm N ε ai): xP K M ai:=by
 have:=hs.2.1 _ ((lX ε.2.2.log.length ε.2.2.room).xh N) ⟨rfl,rfl⟩
 exact⟨by rw[this.1];exact h.1,by rw[this.2];exact h.2⟩
theorem rQ.fits {M L kd:Nat}{cl:Bool}(hr:rQ ε now kd tx 0 0 [] 0 aD e cl ai)(iI:EI N B ε)(hB:B≤1000)(hw:NW N now)(hL:now.length≤L)(hN:N≤1024)(h1:1≤kd)(h2:kd≤7)(qi:tx<16384)(hd:xP K M ε)(hf:K+520*L+28≤M):
  cl=true∧e=0∧xP (K+520*L+28) M ai:=by
 have sA:∀n∈aX now,0≤n∧n<N:=fun n hq=>hw.keys n (iy.1 hq)
 obtain⟨hK,hM⟩:=hd
 have MF:=iI.done hB hw (by omega) (by omega) hr
 cases hr with
 |arg hh=>omega
 |dead _ _ _ hd=>omega
 |nP e c ai _ _ _ _ J uC=>exact absurd (J.ec iI.ec iI.ok sA).2.2 uC
 |app c I _ _ _ _ J uC =>
  have ux:=BL (kd:=kd) J hw hL (by omega) qi
  have acD:=BL (kd:=kd) J hw hw.len (by omega) qi
  have hP:=(lX ε.2.2.log.length ε.2.2.room).ch J ⟨rfl,rfl⟩
  grind[gW,dF,jY]
 |put c I e xm _ _ _ _ J ha hp =>
  rcases MF with⟨jC,_⟩|⟨_,he,_⟩
  ·grind
  ·refine⟨rfl,he,?_⟩
   have ux:=BL (kd:=kd) J hw hL (by omega) qi
   have hP:=(lX ε.2.2.log.length ε.2.2.room).ch J ⟨rfl,rfl⟩
   rcases gW I.2 kd tx 0 0 [] c with⟨e,he,xG,hq⟩|⟨_,Yt,hq⟩|⟨_,hb,EM,fu,Yt,hq⟩
   ·grind
   ·grind
   ·rw[hq] at hp
    have jR:=(lX (ε.2.2.log.length+(dF I.2.1 kd tx 0 0 [] c).length) ε.2.2.room).pt hp ⟨by grind,hP.2⟩
    have h3:(dF I.2.1 kd tx 0 0 [] c).length≤520*L+28:=by rw[dF,jY];omega
    exact⟨by omega,by omega⟩
def sdep : Code→Nat
 |.seq a b=>1+max (sdep a) (sdep b)
 |_=>1
def WPd (C:eO)(ak:Nat)(code:Code)(E:List (Nat×V))(h:H)(d:rF)(Q:Ex→List (Nat×V)→H→rF→Prop): Prop :=
 ∀env,iz env E→∃N0 ex I h' E' J,(∀N m,N0≤N→sdep code≤m→evTop C N m code ⟨env,ak,h⟩ d=some (ex,⟨I,ak,h'⟩,J))∧iz I E'∧Q ex E' h' J
section
variable {C:eO} {ak:Nat} {Q:Ex→List (Nat×V)→H→rF→Prop}
def noDef : List Oper→Bool
 |[]=>true
 |o::l=>(match o.op with
  |.defer _=>false
  |_=>true)&&noDef l
def noDefC : Code→Bool
 |.seq a b=>noDefC a&&noDefC b
 |.region _ ops false=>noDef ops.toList
 |_=>true
theorem PA {self:Self}{L:List Oper}: ∀ {l:List Oper} {s s':St},noDef l=true→evOps C self L l s=some s'→evOpsD C self L l s d=some (s',d):=by
 intro l
 induction l<;>grind[evOps,noDef,evOpsD]
theorem evTop_of : ∀ {code:Code} {n:Nat} {s:St} {ex:Ex} {s':St} {d:rF},noDefC code=true→ev C n code s=some (ex,s')→∀N m,n≤N→sdep code≤m→evTop C N m code s d=some (ex,s',d):=by
 have leaf:∀ {code:Code} {n:Nat} {s:St} {ex:Ex} {s':St} {d:rF} {N m:Nat},(∀m,evTop C N (m+1) code s d=match ev C N code s with
   |some (ex,s')=>some (ex,s',d)
   |none=>none)→ev C n code s=some (ex,s')→n≤N→1≤m→evTop C N m code s d=some (ex,s',d):=fun {code n s ex s' d N m} he I J hm=>by
  obtain⟨k,rfl⟩:∃k,m=k+1:=⟨m-1,by omega⟩
  rw[he,dI J _ _ _ I]
 intro code
 induction code with
 |seq a b iha ihb =>
  intro n s ex s' d hn I N m J hm
  simp only[noDefC,bK] at hn
  simp only[sdep] at hm
  obtain⟨k,rfl⟩:∃k,m=k+1:=⟨m-1,by omega⟩
  cases n with
  |zero=>cases I
  |succ n =>
   rw[iD] at I
   simp only[evStep] at I
   cases ha:ev C n a s with
   |none=>grind
   |some r =>
    obtain⟨e1,s1⟩:=r
    have h1:=iha (d:=d) hn.1 ha N k (by omega) (by omega)
    simp only[evTop,h1]
    rw[ha] at I
    cases e1 with
    |normal=>exact ihb hn.2 I N k (by omega) (by omega)
    |exit i=>grind
    |ret=>grind
 |region id ops draw =>
  intro n s ex s' d hn I N m J hm
  cases draw with
  |true=>exact leaf (fun m=>rfl) I J hm
  |false =>
   obtain⟨k,rfl⟩:∃k,m=k+1:=⟨m-1,by have:1≤m:=hm;omega⟩
   cases n with
   |zero=>cases I
   |succ n =>
    rw[iD] at I
    simp only[evStep,aL] at I
    cases ho:evOps C (ev C n) ops.toList ops.toList s with
    |none=>grind
    |some s1 =>
     rw[ho] at I
     obtain⟨rfl,rfl⟩:=I
     have h2:=pM (dI (C:=C) (show n≤N by omega)) _ _ _ ho
     simp only[evTop,PA (d:=d) hn h2]
 |_=>intro n s ex s' d hn I N m J hm;exact leaf (fun m=>rfl) I J hm
theorem WPd.of_wp (J:noDefC code=true)(hw:WP C ak code E h fun ex E' h'=>Q ex E' h' d): WPd C ak code E h d Q:=by
 intro env hE
 obtain⟨N,ex,I,h',E',h1,h2,h3⟩:=hw env hE
 exact⟨N,ex,I,h',E',d,fun M m hM hm=>evTop_of J h1 M m hM hm,h2,h3⟩
theorem WPd.seq {a b:Code}(hw:WPd C ak a E h d fun ex E' h' J=>match ex with
  |.normal=>WPd C ak b E' h' J Q
  |ex=>Q ex E' h' J): WPd C ak (.seq a b) E h d Q:=by
 intro env hE
 obtain⟨N,ex,I,h',E',J,h1,h2,h3⟩:=hw env hE
 have one:∀M m,N≤M→sdep (.seq a b)≤m+1→evTop C M m a ⟨env,ak,h⟩ d=some (ex,⟨I,ak,h'⟩,J):=fun M m hM hm=>h1 M m hM (by simp only[sdep] at hm;omega)
 have out:(match ex with|.normal=>False|_=>True)→Q ex E' h' J→∃N0 ex I h' E' J,(∀N m,N0≤N→sdep (.seq a b)≤m→evTop C N m (.seq a b) ⟨env,ak,h⟩ d=some (ex,⟨I,ak,h'⟩,J))∧iz I E'∧Q ex E' h' J:=fun hx hq=>by
  refine⟨N,ex,I,h',E',J,fun M m hM hm => ?_,h2,hq⟩
  obtain⟨k,rfl⟩:∃k,m=k+1:=⟨m-1,by simp only[sdep] at hm;omega⟩<;>grind[evTop]
 cases ex with
 |normal =>
  obtain⟨K,r9,BM,NO,E2,d2,g1,g2,g3⟩:=h3 I h2
  refine⟨max N K,r9,BM,NO,E2,d2,fun M m hM hm => ?_,g2,g3⟩
  obtain⟨k,rfl⟩:∃k,m=k+1:=⟨m-1,by simp only[sdep] at hm;omega⟩<;>grind[sdep,evTop]
 |exit i=>simp_all
 |ret=>simp_all
theorem WPd.defer {ops:Array Oper}{I J:Oper}{x1 y:Operand}{cl:Go.Call}{v:V}{first cap:List V}(hL:ops.toList=[I,J])(g1:I.guard=none)(d1:I.dst=some k)(p1:I.op=.move x1)(hk:Nat.blt k ak=true)(hx:bf E x1=some v)
 (g2:J.guard=none)(d2:J.dst=none)(p2:J.op=.defer cl)(hc:cl.callee=.value y)(hy:bf ((k,v)::E) y=some (.fn (.func g) first cap))(ha:lookArgs ((k,v)::E) cl.args.toList=some args)
 (hq:Q .normal ((k,v)::E) h ((g,first++args,cap)::d)): WPd C ak (.region id ops false) E h d Q:=by
 intro env hE
 have T3:iz (env.set k (some v)) ((k,v)::E):=hE.set _ _
 refine⟨0,.normal,env.set k (some v),h,(k,v)::E,(g,first++args,cap)::d,fun M m _ hm => ?_,T3,hq⟩
 obtain⟨j,rfl⟩:∃j,m=j+1:=⟨m-1,by have:1≤m:=hm;omega⟩
 have e1:evOpsD C (ev C M) [I,J] [I,J] ⟨env,ak,h⟩ d=some (⟨env.set k (some v),ak,h⟩,(g,first++args,cap)::d):=by
  have yb:wantedV [I,J] env I=true:=by simp[wantedV,g1]
  have he1:evOp C (ev C M) env h I=some (v,h):=by simp only[evOp,p1,bN hE hx];rfl
  have R4:St.put ⟨env,ak,h⟩ I.dst v h=some ⟨env.set k (some v),ak,h⟩:=by grind[St.put]
  rw[evOpsD]
  grind[evOpsD,mu,bN]
 simp only[evTop,hL,e1]
theorem toldDefer_do {f:FuncId}{R:V→H→Prop}(hf:C.P.funcs[f]?=some fn)(hb:fn.body=some code)(hl:Nat.blt fn.ntmps args.length=false)(hdp:sdep code≤1000)
 (hw:WPd C fn.ntmps code (argE args 0) h [] fun ex E' h' d'=>(match ex with|.exit _=>False|_=>True)∧∃I v,(∃N0,∀N,N0≤N→runDefs C N d' h'=some I)∧resLE C.P E' I fn.results.toList=some v∧R v I):
  ∃v I,(∃N0,∀N,N0≤N→toldDefer C N f args h=some (v,I))∧R v I:=by
 obtain⟨N0,ex,J,h',E',d',h1,I,hx,h3,v,⟨N1,hr⟩,Br,hR⟩:=hw _ (sW args)
 refine⟨v,h3,⟨max N0 N1,fun N hN => ?_⟩,hR⟩
 have e1:=h1 N 1000 (by omega) hdp
 have e3:resOf C.P ⟨J,fn.ntmps,h3⟩ fn.results.toList=some v:=by
  unfold resLE at Br
  cases hm:mapO (resE C.P E' h3) fn.results.toList with
  |none=>grind
  |some vs =>
   have EV:=vN (P:=C.P) (s:=⟨J,fn.ntmps,h3⟩) I hm
   grind[resOf]
 unfold toldDefer
 simp only[hf,hb,hl,aL,e1]
 cases ex with
 |exit i=>grind
 |normal=>grind
 |ret=>grind
theorem ov {g:FuncId}{v:V}{J:H}(ht:C.told g=none)(hf:C.P.funcs[g]?=some fn)(hb:fn.body=some code)(hq:quietParts code=none)(hc:fL C g args h v J): ∃I,∀N,I≤N→runDefs C N [(g,args,[])] h=some J:=by
 obtain⟨I,h0⟩:=hc
 refine⟨I,fun N hN => ?_⟩
 have e:=lQ (dI (C:=C) hN) h0
 grind[runDefs,defCall]
end
def u7 (f:FuncId)(args:List V)(h:H)(r:V×H): Prop:=∃I,∀N,I≤N→toldDefer CB N f args h=some r
theorem Call.defer {told:cC}{f:FuncId}{R:V→H→Prop}(ht:told f=some (iA Tryz.prog f (u7 f)))(hf:Tryz.prog.funcs[f]?=some fn)(hb:fn.body.isSome=true)
 (hd:∃v I,(∃J,∀N,J≤N→toldDefer CB N f args h=some (v,I))∧R v I): Call ⟨Tryz.prog,told⟩ f args h R:=by
 obtain⟨v,I,⟨J,h0⟩,hR⟩:=hd
 obtain⟨r,e1,N1,h1⟩:=m5 (P:=Tryz.prog) (f:=f) (jG:=u7 f) (args:=args) (h:=h) (r:=(v,I)) ⟨J,h0⟩ (fun c w pK hw=>yu (C:=CB) ew c6 (h0 J (aQ _)) pK hw)
 have:r=(v,I):=by
  have a:=h0 (max J N1) (by omega)
  grind
 subst this
 exact⟨v,I,fL.told ht hf hb e1,hR⟩
section
variable {α:Type}
theorem Vz (s:Sat h S){e:TypeId}{z:V}(hu:P.underlying t=some (.slice e))(hz:zeroT P e=some z)(hk:bB P e=some 1)(hl:z.cells.length=1)(hx:x.cells=[x])(hy:y.cells=[y])(I:storable x=true)(J:storable y=true):
  ∃v h',buildSliceV P h t 2 [(0,x),(1,y)]=some (v,h')∧Sat h' (.arr 1 v [x,y]::S):=by
 refine⟨.sl h.next 0 2 (.exact 2),newRow h [x,y],?_,?_⟩
 ·obtain⟨z0,AZ⟩:∃z0,z.cells=[z0]:=by
   match hq:z.cells with
   |[]=>rw[hq] at hl;cases hl
   |[z0]=>exact⟨z0,rfl⟩
   |_::_::_=>rw[hq] at hl;simp at hl
  simp only[buildSliceV,hu,hk,hz,AZ]
  rw[show(Nat.beq [z0].length 1&&Nat.ble (2*1) 65536&&Nat.ble 1 1)=true by rfl,ah]
  have e1:repeatL [z0] 2=[z0,z0]:=by simp[repeatL]
  simp only[fillV,e1,hx,hy,bn,cr]
  show cond ([x,y].all storable) (some (V.sl h.next 0 2 (Cap.exact 2),newRow h [x,y])) none=_
  simp only[jJ,jK,I,J]
  rfl
 ·refine(s.new _).j5 fun m r hm=>⟨by simp[I,J],.inr ⟨h.next,2,.exact 2,2,[],rfl,?_,rfl,rfl,rfl,rfl,aQ _⟩⟩
  have hm:m h.next=some (.cells 2 [x,y] false):=hm
  rw[hm];rfl
theorem VA {S:Prop}: cD (pu S) (cE .aV []):=fun _ _ _=>.inl ⟨fun _ h=>(by cases h),.inl ⟨.inl rfl,rfl⟩⟩
end
theorem Db {kd:Nat}: buildV Tryz.prog 104 [(0,.int .i64 (kd:Int))]=some (.agg (dK (kd:Int) 0 0 0 .aV .aV)):=by rw[sC];rfl
section
variable {told:cC} {M p:Nat} {v op cv:V} {us:List V} {kd:Nat}
theorem dX.done (hw:NW N now)(hd:∀m,pgA ai m=match lookL m now with|some b=>c_ b aD|none=>pgA ε m){i:Int}(I:dX (pgG now ε i) kd link extra cs): dX (pgA ai i) kd link extra cs:=by
 rw[hd]
 unfold pgG at I
 cases J:lookL i now with
 |none=>rw[J] at I;exact I
 |some b =>
  rw[J] at I
  obtain⟨k1,k2,_⟩:=FA (n:=aD) I.len
  exact I.tail k2 k1
theorem j7.done {M:List Nat}(hw:NW N now)(hd:∀m,pgA ai m=match lookL m now with|some b=>c_ b aD|none=>pgA ε m)(I:j7 n R M (pgG now ε)): j7 n R M (pgA ai):=by
 obtain⟨ex,J⟩:=I.head
 obtain⟨kd,lk,r9,h1⟩:=I.marks
 exact⟨⟨ex,J.done hw hd⟩,I.rl,⟨kd,lk,r9,h1.done hw hd⟩,I.ml,I.n1,I.n2,I.own,I.hi⟩
theorem PB (hT:W told)(jD:gP ε)(I:bV ε+65536≤268435456)(J:ε.2.1.b=ε.2.2.log)(eH:ε.2.1.base+ε.2.1.b.length+1048584≤1099511627776)(hNm:N≤65536)(hw:NW N now)(s:Sat h (GA g a p q r data aE now ε::S)):
  Call ⟨Tryz.prog,told⟩ 50 [.ptr g 0,.agg (dK (kd:Int) 0 0 0 .aV .aV)] h fun v h'=>∃(aD:Nat) (e:Int) (cl:Bool) (ai:bq),rQ ε now kd 0 0 0 [] 0 aD e cl ai∧v=.aO [.int .u64 (aD:Int),.int .i64 e] ∧
   Sat h' (eE g a now cl::SA a p q r (cond cl .aZ (.ptr g 0)) data aE ai::S):=by
 have s:=bg.1 s
 have s:Sat h (eE g a now false::c7 a p q r (.ptr g 0) data aE::cL r p q ε.1::bx q p ε.2.1::aJ p ε.2.2::S):=s
 have s:=(s.gh (φ:=True) aa).mU (k:=4)
 refine(KJ (pZ:=0) (data:=[]) hT (s.ae [2,2,2,2,2,1,0]) VA rfl jD I (fun e he=>gI (hw.good e he).1) (by have:=hw.len;omega) (fun n hn=>by have:=hw.keys n hn;omega) (by decide) (by decide) (by decide) (gR _) J eH).mono ?_
 rintro v h ⟨aD,e,cl,ai,hr,rfl,s⟩
 have s:Sat h (eE g a now cl::c7 a p q r (cond cl .aZ (.ptr g 0)) data aE::cL r p q ai.1::bx q p ai.2.1::aJ p ai.2.2::pu True::S):=s
 have s2:Sat h (SA a p q r (cond cl .aZ (.ptr g 0)) data aE ai::eE g a now cl::pu True::S):=bg.2 (s.ae [1,1,1,1,0])
 exact⟨aD,e,cl,ai,hr,rfl,(s2.ae [1]).del 2⟩
theorem PC (hT:W told)(hB:B≤900)(I:EI N B ε)(hw:NW N now)(s:Sat h (GA g a p q r data aE now ε::S)):
  Call ⟨Tryz.prog,told⟩ 50 [.ptr g 0,.agg (dK (kd:Int) 0 0 0 .aV .aV)] h fun v h'=>∃(aD:Nat) (e:Int) (cl:Bool) (ai:bq),rQ ε now kd 0 0 0 [] 0 aD e cl ai∧v=.aO [.int .u64 (aD:Int),.int .i64 e] ∧
   Sat h' (eE g a now cl::SA a p q r (cond cl .aZ (.ptr g 0)) data aE ai::S):=by
 have J:=I.bV
 have eH:=I.el.size
 exact PB hT I.ok (by omega) I.el.log (by omega) I.many hw s
theorem PD (hT:W told)(hB:B≤900)(I:EI N B ε)(hw:NW N now){L:Nat}(hL:now.length≤L)(hN:N≤1024)(h1:1≤kd)(h2:kd≤7)(hd:xP K M ε)(hf:K+520*L+28≤M)(s:Sat h (GA g a p q r data aE now ε::S)):
  Call ⟨Tryz.prog,told⟩ 50 [.ptr g 0,.agg (dK (kd:Int) 0 0 0 .aV .aV)] h fun v h'=>∃(aD:Nat) (ai:bq),v=.aO [.int .u64 (aD:Int),.int .i64 0]∧EI N (B+2) ai∧(∀m,pgA ai m=match lookL m now with|some b=>c_ b aD|none=>pgA ε m)∧xP (K+520*L+28) M ai ∧
   Sat h' (eE g a now true::SA a p q r .aZ data aE ai::S)∧rQ ε now kd 0 0 0 [] 0 aD 0 true ai:=by
 refine(PC hT hB I hw s).mono ?_
 rintro v h ⟨aD,e,cl,ai,hr,rfl,s⟩
 obtain⟨rfl,rfl,J⟩:=hr.fits I (by omega) hw hL hN h1 h2 (by decide) hd hf
 rcases I.done (by omega) hw (by omega) (by omega) hr with⟨jC,_⟩|⟨_,_,KE,fS⟩
 ·cases jC
 ·exact⟨aD,ai,rfl,KE,fS,J,s,hr⟩
theorem Sq (J:W told)(hB:B≤900)(I:EI N B ε)(hw:NW N now)(hN:N≤1024)(h1:1≤kd)(h2:kd≤7)(hd:xP K M ε)(hf:K+520*N+28≤M)(s:Sat h (GA g a p q r data aE now ε::S)):
  Call ⟨Tryz.prog,told⟩ 50 [.ptr g 0,.agg (dK (kd:Int) 0 0 0 .aV .aV)] h fun v h'=>∃(aD:Nat) (ai:bq),v=.aO [.int .u64 (aD:Int),.int .i64 0]∧EI N (B+2) ai∧(∀m,pgA ai m=match lookL m now with|some b=>c_ b aD|none=>pgA ε m)∧xP (K+520*N+28) M ai ∧
   Sat h' (eE g a now true::SA a p q r .aZ data aE ai::S)∧rQ ε now kd 0 0 0 [] 0 aD 0 true ai:=PD J hB I hw hw.len hN h1 h2 hd hf s
noncomputable def mdL : Code:=cm [1,1,1,0,1,0,0] ((Tryz.f147.body).getD .skip)
theorem PE (hT:W told)(fu:26+4*cs.length+tot cs≤512)(hul:us.length=cs.length): ∀(m i:Nat) (v:V) (b:List Nat) (h:H) (E:List (Nat×V)) (Q:Ex→List (Nat×V)→H→Prop),i+m=cs.length→dX b kd link extra (cs.take i) →
  Sat h (bp v b::each (fun v c=>.c9 v c) us cs::.arr 1 cv us::S)→Has E [(7,v),(22,cv),(23,.int .i64 (cs.length:Int)),(24,.int .i64 (i:Int))] →
  (∀v' b' E' h',dX b' kd link extra cs→Has E' [(7,v')]→Sat h' (bp v' b'::each (fun v c=>.c9 v c) us cs::.arr 1 cv us::S)→Q (.exit 0) E' h')→WP ⟨Tryz.prog,told⟩ 38 (.loop mdL) E h Q:=by
 intro m
 induction m with
 |zero =>
  intro i v b h E Q hi hp s hE hq
  refine WP.loop (WP.has hE (zg rfl (zC rfl aT (by simp;omega) ?_)))
  exact zk 3 rfl (WP.exit (hq v b _ _ (by rw[show cs.take i=cs from gC (by omega)] at hp;exact hp) ⟨rfl,aa⟩ s))
 |succ m ih =>
  intro i v b h E Q hi hp s hE hq
  have I:cs[i]?=some (cs[i]'(by omega)):=bw _
  generalize (cs[i]'(by omega))=c at I
  obtain⟨u,hu,s⟩:=UN (fun _ _=>bC.c9 _ _) (s.ae [1]) I
  dsimp only[aK,bringA] at s
  obtain⟨id,off,e1,e2⟩:=iH (P:=Tryz.prog) s (k:=3) (i:=i) (c:=u) rfl hu gV iF
  have Pn:=m_ I
  have Fs:=ou (cs:=cs) (i:=i+1)
  have hlen:(cs.take i).length=i:=by rw[qt];omega
  have X7:cs.take (i+1)=cs.take i++[c]:=by rw[vm,I];rfl
  refine WP.loop (WP.has hE (zg rfl (zB rfl aT (by simp;omega) ?_)))
  refine zk 5 rfl (WP.block (zK 3 rfl (zo rfl (cZ (r:=.ptr id off) rfl rfl e1) (zl rfl (e2 _ b8) (zk 7 rfl ?_)))))
  have J:=KX (told:=told) hT (s.ae [2,0]) (aY _ _) (eZ _ _) hp (by rw[hlen];omega)
  rw[hlen] at J
  refine zc rfl (J) ?_
  rintro r h ⟨u',b',rfl,nN,s⟩
  rw[←X7] at nN
  refine zk 4 rfl (zv (zr rfl (zb rfl (by exact aW (az (by omega) (by omega))) ?_)))
  refine zm rfl (zv ?_)
  exact ih (i+1) u' b' _ _ Q (by omega) nN (((s.ae [0,2,2]).del 4).del 3) ⟨rfl,rfl,rfl,rfl,aa⟩ hq
theorem K6 (hT:W told)(hkd:kd≤255)(Fw:lk<4294967296)(I:26+4*cs.length+tot cs≤512)(J:us.length=cs.length)(s:Sat h (each (fun v c=>.c9 v c) us cs::.arr 1 cv us::S)):
  Call ⟨Tryz.prog,told⟩ 147 [.int .i64 (kd:Int),.int .i64 (lk:Int),cv] h fun r h'=>∃b',dX b' kd lk 0 cs∧Sat h' (bp r b'::S):=by
 refine Call.of_wp (hT.free _ rfl) Tryz.func147 rfl rfl (zK 7 rfl (zc rfl (Ic (kd:=kd) hT s hkd) ?_))
 rintro r h ⟨u,b,rfl,hb,s⟩
 refine zk 10 rfl (zc rfl (KW (lk:=lk) (ex:=0) hT s (aY _ _) hb Fw (by decide)) ?_)
 rintro r h ⟨u2,b2,rfl,rz,s⟩
 refine zk 9 rfl (zo rfl (a_ rfl rfl rfl (s.fN (n:=cs.length) (j:=3) rfl (by rw[J,ig]) (by decide) gV)) ?_)
 refine zk 2 rfl (WP.block ?_)
 refine PE hT I J cs.length 0 u2 b2 _ _ _ (by omega) rz (s.ae [0,1,1]) ⟨rfl,rfl,rfl,rfl,aa⟩ (fun v' b' E' h' Dc hE s' => ?_)
 have s:=s'
 exact WP.has hE (zK 5 rfl (WP.ret ⟨aa,_,rfl,b',Dc,((s.del 3).del 2).del 1⟩))
theorem MG (J:W told)(s:Sat h (X::S))(hX:cD X (cE v b))(hl:b.length=512)(hg:cg b=false): Call ⟨Tryz.prog,told⟩ 203 [v] h fun r h'=>r=.aO [.aV,.int .i64 4]∧Sat h' (X::S):=by
 refine Call.of_wp (J.free _ rfl) Tryz.func203 rfl rfl (zK 8 rfl (zc rfl (tN J s hX (by omega)) ?_))
 rintro r h' ⟨s,(⟨I,rfl⟩|⟨_,rfl⟩)⟩
 ·rw[hg] at I;cases I
 refine zk 3 rfl ?_
 refine au.bP s rfl rfl rfl (bR jv) (fun p4 h s => ?_)
 refine zS rfl (s.fM (j:=0) rfl bI rfl rfl) (fun h s => ?_)
 refine zk 6 rfl (zB rfl aA (by decide) ?_)
 exact zk 8 rfl (WP.ret ⟨aa,_,rfl,rfl,s.drop⟩)
theorem PF (hT:W told)(hR:C7 told N B rv A pg)(J:EI N B ε)(hN:1≤N)(hl:(pg ε 0).length=512)(hg:cg (pg ε 0)=false)(s:Sat h (A ε::S)):
  Call ⟨Tryz.prog,told⟩ 144 [rv] h fun v h'=>∃ai,v=.aO [.aV,.int .i64 0,.bool false,.int .i64 0]∧EI N B ai∧Sm N ε ai∧Sat h' (A ai::S):=by
 obtain⟨ty,u,f,rfl,hm,kB⟩:=hR.iface
 refine Call.of_wp (hT.free _ rfl) Tryz.func144 rfl rfl (zK 10 rfl (au.any rfl rfl rfl (OpR.invoke rfl rfl rfl hm rfl (kB J (by decide) (by omega) s)) ?_))
 rintro v h ⟨u,ai,rfl,I,hs,s⟩
 refine zk 10 rfl (zC rfl aA (rfl) (zk 6 rfl (zc rfl (MG hT s (aY _ _) hl hg) ?_)))
 rintro v h ⟨rfl,s⟩
 refine zk 8 rfl (WP.drawn [af,af,af,af,af,af,af,af,some (0,2),some (0,2),some (0,2),af,af,af,af,af,af,af,af,af,af,af] rfl (by kernel_rfl) (by kernel_rfl) ?_)
 refine zM rfl (ax.vT rfl rfl rfl rfl (aq rfl rfl aA) (by decide) ?_)
 refine zM rfl (ax.no (e:=false) rfl rfl rfl rfl (ax.no (e:=false) rfl rfl rfl rfl (ax.no (e:=false) rfl rfl rfl rfl (zO rfl (nr rfl rfl) (zM rfl (ax.no (e:=false) rfl rfl rfl rfl (ax.no (e:=false) rfl rfl rfl rfl (ax.no (e:=false) rfl rfl rfl rfl (ax.no (e:=true) rfl rfl rfl rfl (ax.no (e:=true) rfl rfl rfl rfl (ax.no (e:=false) rfl rfl rfl rfl (zO rfl (nr rfl rfl) (zM rfl (ax.no (e:=false) rfl rfl rfl rfl (ax.no (e:=false) rfl rfl rfl rfl (ax.no (e:=false) rfl rfl rfl rfl (ax.no (e:=false) rfl rfl rfl rfl (ax.no (e:=false) rfl rfl rfl rfl (zO rfl (nr rfl rfl) ?_)))))))))))))))))))
 refine ax.nil ⟨⟨aa,aa,aa,aa,aa,aa,aa,aa,fun _ _=>.inl rfl,fun _ _=>.inl rfl,fun _ _=>.inl rfl,aa,aa,aa,aa,aa,aa,aa,aa,aa,aa,aa,aa⟩,?_⟩
 exact zK 8 rfl (WP.ret ⟨aa,_,rfl,ai,rfl,I,hs,s.drop⟩)
theorem xQ (hT:W told)(hR:C7 told N B rv A pg)(J:EI N B ε)(hN:1≤N)(hl:(pg ε 0).length=512)(hg:cg (pg ε 0)=false)(s:Sat h (A ε::S)):
  Call ⟨Tryz.prog,told⟩ 78 [rv] h fun v h'=>∃ai,v=.aO [.bool false,.int .i64 0]∧EI N B ai∧Sm N ε ai∧Sat h' (A ai::S):=by
 refine Call.of_wp (hT.free _ rfl) Tryz.func78 rfl rfl (zK 8 rfl (zc rfl (PF hT hR J hN hl hg s) ?_))
 rintro v h ⟨ai,rfl,I,hs,s⟩
 exact zk 17 rfl (WP.ret ⟨aa,_,rfl,ai,rfl,I,hs,s⟩)
end
def rS : List Nat:=((List.replicate 375 0).set 0 1).set 0 3
theorem PG : bt rS j=decide (j<2):=by
 unfold bt rS
 by_cases h:j/8=0
 ·have e:(((List.replicate 375 0).set 0 1).set 0 3).getD (j/8) 0=3:=by rw[h];decide +kernel
  have k:∀i,i<8→(3:Nat).testBit i=decide (i<2):=by decide
  rw[e,k _ (by omega)]
  by_cases I:j<2
  ·rw[e_ I,e_ (by omega)]
  ·rw[fQ I,fQ (by omega)]
 ·have e:(((List.replicate 375 0).set 0 1).set 0 3).getD (j/8) 0=0:=by
   rw[ve,qo (by omega),qo (by omega),List.getElem?_replicate]
   split<;>rfl
  rw[e,Nat.zero_testBit,fQ (by omega)]
def GDn (N B kd:Nat)(ε ai:bq): Prop:=∃(I:bq) (now:List (Int×List Nat)) (aD:Nat),EI N B I∧Sm N ε I∧NW N now∧(∀i:Int,2≤i→lookL i now=none)∧rQ I now kd 0 0 0 [] 0 aD 0 true ai
section
variable {told:cC} {M p:Nat}
theorem PI (hB:B≤800)(iI:EI N B ε)(hN:4≤N)(hN2:N≤1000)(hz:(pgA ε 0).length=512)(hg:cg (pgA ε 0)=false)(hd:xP K M ε)(hf:K+520*N+28≤M)(s:Sat h (SA a p q r .aZ data aE ε::S)):
  ∃v h2,(∃N0,∀n,N0≤n→toldDefer CB n 79 [.ptr a 0] h=some (v,h2))∧(v=.int .i64 0∧∃ai,EI N (B+2) ai∧j7 N (List.replicate 64 0) rS (pgA ai)∧xP (K+520*N+28) M ai∧Sat h2 (SA a p q r .aZ data aE ai::S)∧GDn N B 1 ε ai):=by
 have I:=W.base
 refine toldDefer_do (C:=CB) Ia rfl rfl (of_decide_eq_true (by kernel_rfl)) ?_
 refine WPd.seq (WPd.of_wp rfl (zr rfl (za rfl (zv (WPd.seq (WPd.of_wp rfl (zr rfl (zm rfl (zo rfl (qW rfl (mki_of C6 rfl)) (zc rfl (xQ I (MD I (by omega)) iI (by omega) hz hg s) ?_))))))))))
 rintro v h ⟨oJ,rfl,nT,fV,s⟩
 have hd:=hd.sm fV
 have s:Sat h (c7 a p q r .aZ data aE::cL r p q oJ.1::bx q p oJ.2.1::aJ p oJ.2.2::S):=bg.1 s
 refine zk 5 rfl (zv (WPd.seq (WPd.of_wp rfl (WP.block (zg rfl (zm rfl (zh rfl (aq rfl rfl aA) (rfl) (za rfl (zv (zj rfl (zg rfl (zk 2 rfl (zv (zj rfl (WP.skip (WPd.seq (WPd.of_wp rfl (zr rfl (zm rfl (zc rfl (R8 I s) ?_))))))))))))))))))))
 rintro v h' ⟨rfl,rfl⟩
 refine zc rfl (By I (s.ae [3])) ?_
 rintro v h' ⟨rfl,rfl⟩
 rw[nT.ec.dk.aM]
 refine za rfl (zv (WPd.seq (WPd.of_wp rfl (zr rfl (zm rfl (zc rfl (Pr I (n:=N) (by omega) (by omega)) ?_))))))
 rintro v h' ⟨rfl,rfl⟩
 refine za rfl (zv (WPd.seq (WPd.of_wp rfl (zr rfl (zm rfl (zc rfl (rP I s) ?_))))))
 rintro v h ⟨g,rfl,s⟩
 refine zk 5 rfl (zv (WPd.seq (WPd.seq (WPd.of_wp rfl (zr rfl (zm rfl (zh rfl (aq rfl rfl aA) (rfl) (zv (WPd.of_wp rfl (zj rfl (WP.skip (WPd.seq (WPd.defer rfl rfl rfl rfl rfl rfl rfl rfl rfl rfl rfl rfl (WPd.seq (WPd.seq (WPd.of_wp rfl (zr rfl (zk 2 rfl (zb rfl (by exact aW (az (by omega) (by omega))) ?_)))))))))))))))))))
 refine zC rfl aT (by simp;omega) ?_
 have s:Sat h (GA g a p q r data aE [] oJ::S):=bg.2 s
 refine zv (WPd.of_wp rfl (zj rfl (WP.skip (WPd.seq (WPd.seq (WPd.of_wp rfl (WP.drawn [some (0,5),some (0,4),af,af,af,af,af,af] rfl (by kernel_rfl) (by kernel_rfl) ?_)))))))
 refine zM rfl (zM rfl (ax.any rfl rfl rfl rfl (OpR.call rfl rfl rfl rfl (Ig I s)) ?_))
 intro mv h s
 refine ax.any rfl rfl rfl rfl (OpR.Cx rfl s rfl rfl rfl rfl (by decide)) ?_
 intro zbv h s
 have s:=s.fX
 have Yu:(List.replicate 64 0).length=64:=fD
 have hm:=(s.aI (k:=1) rfl (eZ _ _)).cells
 have hzc:=(s.aI (k:=0) rfl (eZ _ _)).cells
 obtain⟨cv,h1,e1,s1⟩:=Vz (P:=Tryz.prog) (x:=mv) (y:=zbv) s gV rX iF rfl hm.1 hzc.1 hm.2 hzc.2
 refine ax.any rfl rfl rfl rfl (OpR.of (R:=fun v h'=>v=cv∧h'=h1) (mC rfl e1) ⟨rfl,rfl⟩) ?_
 rintro cv h ⟨rfl,rfl⟩
 have s:=(s1.ae [2,1]).two (C:=each (fun v c=>.c9 v c) [mv,zbv] [fC,List.replicate 64 0]) (bC.c9 _ _) (bC.c9 _ _) fun a b q1 q2=>⟨q1,q2,aa⟩
 generalize hR:List.replicate 64 0=R at s Yu
 refine ax.any rfl rfl rfl rfl (OpR.call rfl rfl rfl rfl (K6 (kd:=201) (lk:=N) I (by decide) (by omega) (by simp only[tot,fC,bn,cr,Yu];decide) rfl s)) ?_
 rintro u h ⟨b0,r7,s⟩
 refine ax.any rfl rfl rfl rfl (OpR.call rfl rfl rfl rfl (Da (i:=0) I (by omega) nT (NW.nil N) (by omega) (s.ae [1,0]) (aY _ _) r7)) ?_
 rintro v h ⟨u6,rfl,tV,qj,xO,s⟩
 have hd:=hd.sm qj
 refine zA rfl ?_
 refine ax.nil ⟨⟨fun _ _=>.inr ⟨rfl,⟨_,aS rfl⟩,aB _ rfl⟩,fun _ _=>.inr ⟨rfl,⟨_,aS rfl⟩,aB _ rfl⟩,aa,aa,aa,aa,aa,aa,aa⟩,?_⟩
 refine WPd.seq (WPd.of_wp rfl (zr rfl (zm rfl (zh rfl (aq rfl rfl aA) (rfl) (zv (WPd.of_wp rfl (zj rfl (WP.skip (WPd.seq (WPd.seq (WPd.of_wp rfl (zr rfl (za rfl (zv (WPd.of_wp rfl (WP.block (WP.loop (zw (zg rfl (zk 2 rfl (zt rfl (aq rfl rfl aT) (by decide) ?_)))))))))))))))))))))
 refine zv (zi rfl (WP.skip (zw (WP.block (zg rfl (au.any rfl rfl rfl (OpR.Cx rfl s rfl rfl rfl rfl (by decide)) ?_))))))
 intro mk h s
 have J:(List.replicate 375 0).length=375:=fD
 have AZ:(List.replicate 375 0)[0]?=some 0:=by decide +kernel
 have TT:rS.length=375:=by unfold rS;rw[dD,dD,J]
 have Im:rS=((List.replicate 375 0).set 0 1).set 0 3:=rfl
 have K4:∀j,bt rS j=decide (j<2):=fun j=>PG
 generalize rS=M0 at TT Im K4 ⊢
 generalize List.replicate 375 0=Z at s J AZ Im
 obtain⟨id,off,e2,e3⟩:=fy (s.buf (k:=0) rfl).view AZ
 obtain⟨Py,Ij,e4,h4,e5,s2⟩:=oc s (i:=0) (b:=1) (by omega) (by decide)
 have ee:V.ptr id off=V.ptr Py Ij:=by rw[e2] at e4;exact b6 e4
 rw[←ee] at e5
 refine zk 8 rfl (WP.block (WP.loop (zg rfl (zB rfl aT (by decide) ?_))))
 refine zk 5 rfl (WP.block (zK 8 rfl (zo rfl (aq (r:=.int .i64 0) rfl rfl (by kernel_rfl)) ?_)))
 refine zm rfl (zb rfl (by exact g9 (az (by omega) (by omega))) ?_)
 refine zB rfl dh (by decide) ?_
 refine zk 2 rfl (WP.drawn [af,af,af,af,af,af,af,af,af,af,af,af] rfl (by kernel_rfl) (by kernel_rfl) ?_)
 refine zM rfl (zM rfl (zO rfl (aq (r:=.int .i64 0) rfl rfl (by kernel_rfl)) ?_))
 refine zO rfl (aq (r:=.int .i64 0) rfl rfl (by kernel_rfl)) ?_
 refine zO rfl (cZ (r:=.ptr id off) rfl rfl e2) (zL rfl e3 (zM rfl (zO rfl (aq (r:=.int .i64 0) rfl rfl (by kernel_rfl)) ?_)))
 refine zO rfl (aq (r:=.int .u8 1) rfl rfl (by kernel_rfl)) ?_
 refine zO rfl (aq (r:=.int .u8 1) rfl rfl (by kernel_rfl)) ?_
 refine zO rfl (cZ (r:=.ptr id off) rfl rfl e2) (ax.gY rfl rfl rfl (OpR.rH rfl rfl rfl (⟨h4,e5,s2⟩)) ?_)
 rintro w h ⟨rfl,s⟩
 refine ax.nil ⟨⟨aa,aa,aa,aa,aa,aa,aa,aa,aa,aa,aa,aa,aa⟩,?_⟩
 have Nn:(Z.set 0 1)[0]?=some 1:=ke (by omega)
 have Fj:(Z.set 0 1).length=375:=by rw[dD,J]
 obtain⟨Yv,Sr,e6,e7⟩:=fy (s.buf (k:=0) rfl).view Nn
 obtain⟨id6,aa9,e8,h7,e9,s3⟩:=oc s (i:=0) (b:=3) (by omega) (by decide)
 have ee:V.ptr Yv Sr=V.ptr id6 aa9:=by rw[e6] at e8;exact b6 e8
 rw[←ee] at e9
 refine zr rfl (zb rfl (by exact aW (az (by omega) (by omega))) ?_)
 refine zm rfl (zv (WP.loop (zg rfl (zt rfl (aq rfl rfl aT) (by decide) ?_))))
 refine zk 5 rfl (WP.block (zK 8 rfl (zo rfl (aq (r:=.int .i64 0) rfl rfl (by kernel_rfl)) ?_)))
 refine zm rfl (zb rfl (by exact g9 (az (by omega) (by omega))) ?_)
 refine zB rfl dh (by decide) ?_
 refine zk 2 rfl (WP.drawn [af,af,af,af,af,af,af,af,af,af,af,af] rfl (by kernel_rfl) (by kernel_rfl) ?_)
 refine zM rfl (zM rfl (zO rfl (aq (r:=.int .i64 1) rfl rfl (by kernel_rfl)) ?_))
 refine zO rfl (aq (r:=.int .i64 0) rfl rfl (by kernel_rfl)) ?_
 refine zO rfl (cZ (r:=.ptr Yv Sr) rfl rfl e6) (zL rfl e7 (zM rfl (zO rfl (aq (r:=.int .i64 1) rfl rfl (by kernel_rfl)) ?_)))
 refine zO rfl (aq (r:=.int .u8 2) rfl rfl (by kernel_rfl)) ?_
 refine zO rfl (aq (r:=.int .u8 3) rfl rfl (by kernel_rfl)) ?_
 refine zO rfl (cZ (r:=.ptr Yv Sr) rfl rfl e6) (ax.gY rfl rfl rfl (OpR.rH rfl rfl rfl (⟨h7,e9,s3⟩)) ?_)
 rintro w h ⟨rfl,s⟩
 refine ax.nil ⟨⟨aa,aa,aa,aa,aa,aa,aa,aa,aa,aa,aa,aa,aa⟩,?_⟩
 rw[←Im] at s
 refine zr rfl (zb rfl (by exact aW (az (by omega) (by omega))) ?_)
 refine zm rfl (zv (WP.loop (zg rfl (zh rfl (aq rfl rfl aT) (by decide) ?_))))
 refine zk 3 rfl (WP.exit (zK 5 rfl ?_))
 have s:=s.fX
 have T4:=(s.aI (k:=0) rfl (eZ _ _)).cells
 obtain⟨cv2,h8,Xt,s4⟩:=kj (P:=Tryz.prog) (k:=1) (x:=mk) s gV rX iF rfl (by decide) (by decide) (by rw[T4.1];rfl) (by rw[T4.1];simp only[jJ,jK,T4.2];rfl)
 rw[T4.1] at s4
 refine au.any rfl rfl rfl (OpR.of (R:=fun v h'=>v=cv2∧h'=h8) (mC rfl Xt) ⟨rfl,rfl⟩) ?_
 rintro cv2 h ⟨rfl,rfl⟩
 have s:=(s4.ae [1]).j5 (B:=each (fun v c=>.c9 v c) [mk] [M0]) fun a b q=>⟨q,aa⟩
 dsimp only[aK,bringA] at s
 refine zc rfl (K6 (kd:=202) (lk:=0) I (by decide) (by decide) (by simp only[tot,bn,cr,TT];decide) rfl s) ?_
 rintro u h ⟨b1,BX,s⟩
 refine zc rfl (Da (i:=1) I (by omega) tV xO (by omega) (s.ae [1,0]) (aY _ _) BX) ?_
 rintro v h ⟨xm,rfl,sg,kH,pG,s⟩
 dsimp only[aK,bringA] at s
 have hd:=hd.sm kH
 refine za rfl (zv (zg rfl (zm rfl (zh rfl (aq rfl rfl aA) (rfl) (zv (zj rfl (WP.skip (zr rfl (zm rfl (zb rfl (by exact aW (az (by omega) (by omega))) ?_))))))))))
 refine zk 2 rfl (WP.loop (zK 5 rfl (zC rfl aT (by decide) ?_)))
 refine zk 2 rfl (WP.exit (WPd.seq (WPd.of_wp rfl (zK 2 rfl (zo rfl (cx rfl (Db (kd:=1))) (zc rfl (Sq (kd:=1) I (by omega) sg pG (by omega) (by decide) (by decide) hd hf s) ?_))))))
 rintro v h ⟨aD,Ss,rfl,Yw,fS,hd4,s,PJ⟩
 have C2:j7 N R M0 (pgG (cW ((1:Nat):Int) b1 (cW ((0:Nat):Int) b0 [])) xm):=by
  refine⟨⟨0,?_⟩,Yu,⟨202,0,0,?_⟩,TT,by omega,by omega,fun j hj=>by rw[K4,e_ hj],fun j hj=>by rw[K4,fQ (by omega)]⟩
  ·rw[gX,aj (by decide),gX,aC (by decide)];exact r7
  ·rw[gX,aC (by decide)];exact BX
 refine zk 4 rfl (zv (WPd.seq (WPd.of_wp rfl (zr rfl (zk 2 rfl (zv (WPd.of_wp rfl (WP.ret ?_))))))))
 have s:=s.ae [1]
 have s:=bg.1 s
 have s:=s.ae [4]
 obtain⟨v2,h2,vR,rfl,s⟩:=pY I s
 have s:=s.ae [1,1,1,1]
 have s:Sat h2 (SA a p q r .aZ data aE Ss::_):=bg.2 s
 have m9:oA 59=none:=I.free _ rfl
 exact⟨aa,h2,_,ov (C:=CB) m9 vZ rfl rfl vR,lR rfl,rfl,Ss,Yw,C2.done pG fS,hd4,((s.del 3).del 2).del 1,xm,_,aD,sg,(fV.trans qj).trans kH,pG,fun i hi=>by rw[kD,aj (by omega),kD,aj (by omega)];rfl,PJ⟩
end
def zu (R:List Nat)(i p:Nat): List Nat:=bH R (4*i) (le 4 p)
theorem Io {p:Nat}(I:R.length=64)(hi:i<16): (zu R i p).length=64:=by
 rw[zu,c5 (by rw[cq];omega),I]
theorem j7.roots {P:Int→List Nat}(h:j7 N R M P){I:List Nat}(J:P' 1=P 1)(h0:∃ex,dX (P' 0) 201 N ex [fC,I])(hl:I.length=64): j7 N I M P' :=
 ⟨h0,hl,by rw[J];exact h.marks,h.ml,h.n1,h.n2,h.own,h.hi⟩
theorem F3 (I:n<18446744073709551616): convV Tryz.prog h 3 32 (.int .i64 (n:Int))=some (.int .u64 (n:Int),h):=by
 simp only[convV,bF,bM,wrap_u64 I]
section
variable {told:cC} {p:Nat} {v:V} {sm:bq→bq→Prop}
theorem aa_ (J:Mo told N lv dd sm)(I:lv ε)(hw:NW N now){n:Int}(h0:0≤n)(h1:n<N)(s:Sat h (GA g a p q r data aE now ε::S)):
  Call ⟨Tryz.prog,told⟩ 207 [.ptr g 0,.int .i64 n] h fun v h'=>(∃ai,v=.aO [.aV,.int .i64 9]∧dd ai∧Sat h' (GA g a p q r data aE now ai::S))∨∃w ai,v=.aO [w,.int .i64 0]∧lv ai∧sm ε ai∧Sat h' (bp w (pgG now ε n)::GA g a p q r data aE now ai::S):=by
 obtain⟨ty,u,f,e,hm,hr⟩:=(J.gr (g:=g) (a:=a) (p:=p) (q:=q) (r:=r) (data:=data) (aE:=aE) hw).iface
 injection e with e1 e2
 subst e1
 subst e2
 rw[En] at hm
 obtain rfl:=b6 hm
 exact hr I h0 h1 s
theorem PK (hT:W told)(hM:Mo told N lv dd sm)(iI:lv ε)(hw:NW N now)(hp:j7 N R M (pgG now ε)){i:Int}(s:Sat h (GA g a p q r data aE now ε::S)):
  Call ⟨Tryz.prog,told⟩ 153 [.ptr g 0,.int .i64 i,.int .i64 z] h fun v h'=>(v=.int .i64 9∧Yn N g a p q r data aE dd S h')∨∃ai dw,lv ai∧sm ε ai∧NW N dw∧dw.length≤now.length+1∧Sat h' (GA g a p q r data aE dw ai::S) ∧
   ((¬(0≤i∧i<16∧0≤z∧z<N)∧v=.int .i64 1∧dw=now)∨(0≤i∧i<16∧0≤z∧z<N∧v=.int .i64 0∧j7 N (zu R i.toNat z.toNat) M (pgG dw ai)∧∀m,m≠0→pgG dw ai m=pgG now ε m)):=by
 obtain⟨ex,qg⟩:=hp.head
 have CJ:=hp.n1
 have xK:=hp.n2
 have C8:=hp.rl
 refine Call.of_wp (hT.free _ rfl) Tryz.func153 rfl rfl (zK 7 rfl (zo rfl (qW rfl (mki_of ot rfl)) (zc rfl (Ih hT (hM.gr hw) iI (by omega) qg hp.rl s) ?_)))
 rintro v h (⟨I,rfl,s,hd⟩|⟨u,I,rfl,nT,fV,s⟩)
 ·skip
  refine zk 9 rfl (WP.block (zK 3 rfl (zB rfl aA (by decide) ?_)))
  exact zk 8 rfl (WP.ret ⟨aa,_,rfl,.inl ⟨rfl,I,now,hw,s,hd⟩⟩)
 have fS:pgG now I=pgG now ε:=hM.pgG fV
 have bad:∀ {h':H},¬(0≤i∧i<16∧0≤z∧z<N)→Sat h' (bp u R::GA g a p q r data aE now I::S)→∃ai dw,lv ai∧sm ε ai∧NW N dw∧dw.length≤now.length+1∧Sat h' (GA g a p q r data aE dw ai::S) ∧
   ((¬(0≤i∧i<16∧0≤z∧z<N)∧V.int .i64 1=.int .i64 1∧dw=now)∨(0≤i∧i<16∧0≤z∧z<N∧V.int .i64 1=.int .i64 0∧j7 N (zu R i.toNat z.toNat) M (pgG dw ai)∧∀m,m≠0→pgG dw ai m=pgG now ε m)) :=
  fun AX s=>⟨I,now,nT,fV,hw,mo _,s.drop,.inl ⟨AX,rfl,rfl⟩⟩
 refine zk 9 rfl (WP.block (zK 3 rfl (zC rfl aA (rfl) (zk 6 rfl ?_))))
 by_cases h1:i<0
 ·skip
  refine zB rfl aT (by simp;omega) ?_
  exact zk 20 rfl (WP.ret ⟨aa,_,rfl,.inr (bad (by omega) s)⟩)
 ·skip
  refine zC rfl aT (by simp;omega) ?_
  refine zk 2 rfl ?_
  by_cases h2:16≤i
  ·skip
   refine zB rfl jj (by simp;omega) ?_
   exact zk 17 rfl (WP.ret ⟨aa,_,rfl,.inr (bad (by omega) s)⟩)
  ·skip
   refine zC rfl jj (by simp;omega) ?_
   refine zk 3 rfl ?_
   by_cases h3:z<0
   ·skip
    refine zB rfl aT (by simp;omega) ?_
    exact zk 13 rfl (WP.ret ⟨aa,_,rfl,.inr (bad (by omega) s)⟩)
   ·skip
    refine zC rfl aT (by simp;omega) ?_
    refine zk 4 rfl ?_
    by_cases h4:(N:Int)≤z
    ·skip
     refine zB rfl jj (by simp;omega) ?_
     exact zk 8 rfl (WP.ret ⟨aa,_,rfl,.inr (bad (by omega) s)⟩)
    ·obtain⟨k,rfl⟩:∃k:Nat,i=k:=⟨i.toNat,by omega⟩
     obtain⟨w,rfl⟩:∃w:Nat,z=w:=⟨z.toNat,by omega⟩
     have h4k:4*(k:Int)=((4*k:Nat):Int):=by omega
     have Yx:4*((k:Int)+1)=((4*k+4:Nat):Int):=by omega
     refine zC rfl jj (by simp;omega) ?_
     refine zk 2 rfl (zv (zj rfl (WP.skip (zw ?_))))
     have Fi:=eM (s.buf (k:=0) rfl).view
     have HS:=cR (s.buf (k:=0) rfl).view (a:=4*k) (b:=4*k+4) (by omega) (by omega)
     have yL:=eM HS.2.1
     have s0:=s
     refine WP.drawn [some (0,2),some (0,2),some (0,2),some (0,2),some (0,2),some (0,2),some (0,2),af,af,af,af] rfl (by kernel_rfl) (by kernel_rfl) ?_
     refine zM rfl (zM rfl (zO rfl (aq (r:=.int .i64 ((4*k:Nat):Int)) rfl rfl (by rw[←h4k];exact iE (az (by omega) (by omega)))) ?_))
     refine zM rfl (zO rfl (aq (r:=.int .i64 ((k:Int)+1)) rfl rfl (aW (az (by omega) (by omega)))) ?_)
     refine zO rfl (aq (r:=.int .i64 ((4*k+4:Nat):Int)) rfl rfl (by rw[←Yx];exact iE (az (by omega) (by omega)))) ?_
     refine zO rfl (cj (p:=some (.int .i64 ((4*k:Nat):Int))) (q:=some (.int .i64 ((4*k+4:Nat):Int))) (m:=none) (p':=some (4*k)) (q':=some (4*k+4)) (m':=none) rfl rfl rfl rfl (by rw[cF (by omega),b7]) (by rw[cF (by omega),b7]) rfl (cR (s.buf (k:=0) rfl).view (a:=4*k) (b:=4*k+4) (by omega) (by omega)).1) ?_
     refine zM rfl (ax.op rfl rfl rfl (by simp only[isEff,bM]) (bO rfl (F3 (by omega))) ?_)
     have s:=s.mV
     refine ax.any rfl rfl rfl rfl (OpR.call rfl rfl rfl rfl (oh (z:=4) (n:=w) hT s (by decide) (by simp))) ?_
     intro v h s
     rw[dY] at s
     have s:=s.ae [1,0]
     have s1:=s
     refine ax.any rfl rfl rfl rfl (OpR.L3 (p:=4*k) (q:=4*k+4) rfl s (aY _ _) rfl rfl rfl rfl (by omega) (by omega) (by rw[cq];omega)) ?_
     intro _ h s
     rw[gC (by rw[cq];omega)] at s
     have s:Sat h (bp u (zu R k w)::_):=s
     refine ax.nil ⟨⟨fun _ _=>.inr ⟨rfl,⟨_,aS rfl⟩,Fi⟩,fun _ _=>.inr ⟨rfl,⟨_,aS rfl⟩,aB _ rfl⟩,fun _ _=>.inr ⟨rfl,⟨_,aq (r:=.int .i64 ((4*k:Nat):Int)) rfl rfl (by rw[←h4k];exact iE (az (by omega) (by omega)))⟩,aB _ rfl⟩,fun _ _=>.inr ⟨rfl,⟨_,aS rfl⟩,aB _ rfl⟩,fun _ _=>.inr ⟨rfl,⟨_,aq (r:=.int .i64 ((k:Int)+1)) rfl rfl (aW (az (by omega) (by omega)))⟩,aB _ rfl⟩,fun _ _=>.inr ⟨rfl,⟨_,aq (r:=.int .i64 ((4*k+4:Nat):Int)) rfl rfl (by rw[←Yx];exact iE (az (by omega) (by omega)))⟩,aB _ rfl⟩,dJ (.inr ⟨rfl,⟨_,cj (p:=some (.int .i64 ((4*k:Nat):Int))) (q:=some (.int .i64 ((4*k+4:Nat):Int))) (m:=none) (p':=some (4*k)) (q':=some (4*k+4)) (m':=none) rfl rfl rfl rfl (by rw[cF (by omega),b7]) (by rw[cF (by omega),b7]) rfl (cR (s0.buf (k:=0) rfl).view (a:=4*k) (b:=4*k+4) (by omega) (by omega)).1⟩,yL⟩) (.inr ⟨rfl,⟨_,cj (p:=some (.int .i64 ((4*k:Nat):Int))) (q:=some (.int .i64 ((4*k+4:Nat):Int))) (m:=none) (p':=some (4*k)) (q':=some (4*k+4)) (m':=none) rfl rfl rfl rfl (by rw[cF (by omega),b7]) (by rw[cF (by omega),b7]) rfl (cR (s1.buf (k:=0) rfl).view (a:=4*k) (b:=4*k+4) (by omega) (by omega)).1⟩,yL⟩),aa,aa,aa,aa,aa⟩,?_⟩
     have s:=s.ae [2,0]
     refine zK 3 rfl (zc rfl (aa_ (n:=0) hM nT hw (by decide) (by omega) s) ?_)
     rintro v h (⟨u6,rfl,hd,s⟩|⟨w2,u6,rfl,tV,qj,s⟩)
     ·skip
      refine zk 10 rfl (zB rfl aA (by decide) ?_)
      exact zk 7 rfl (WP.ret ⟨aa,_,rfl,.inl ⟨rfl,u6,now,hw,(s.del 2).del 1,hd⟩⟩)
     have aba:dX (pgG now I 0) 201 N ex [fC,R]:=by rw[fS];exact qg
     have s:=s.ae [0,1]
     refine zk 10 rfl (zC rfl aA (rfl) (zk 8 rfl (zc rfl (AN (i:=1) (c:=R) hT s (aY _ _) (aY _ _) aba rfl (by rw[Io C8 (by omega),C8])) ?_)))
     rintro v h ⟨w3,b',rfl,J,s⟩
     have J:dX b' 201 N ex [fC,zu R k w]:=J
     refine zk 9 rfl (zC rfl aA (rfl) (zk 7 rfl (zc rfl (hM.gw (i:=0) tV hw (by omega) (s.ae [3,0]) (aY _ _) J) ?_)))
     rintro v h (⟨xm,rfl,s,hd⟩|⟨xm,rfl,sg,kH,pG,s⟩)
     ·skip
      exact zk 2 rfl (WP.ret ⟨aa,_,rfl,.inl ⟨rfl,xm,now,hw,(((s.del 4).del 3).del 2).del 1,hd⟩⟩)
     refine zk 2 rfl (WP.ret ⟨aa,_,rfl,?_⟩)
     have Yy:∀m:Int,m≠0→pgG (cW (0:Nat) b' now) xm m=pgG now ε m:=fun m hm=>by rw[gX,aj (by omega),hM.pgG kH,hM.pgG qj,fS]
     refine .inr ⟨xm,_,sg,hM.tr (hM.tr fV qj) kH,pG,tW,?_,.inr ⟨by omega,by omega,by omega,by omega,rfl,?_,Yy⟩⟩
     ·exact(((s.del 4).del 3).del 2).del 1
     ·rw[b7,b7]
      exact hp.roots (Yy 1 (by decide)) ⟨ex,by rw[gX,aC (show((0:Nat):Int)=0 from rfl)];exact J⟩ (Io C8 (by omega))
theorem MH (J:W told)(hB:B≤2000)(I:EI N B ε)(hw:NW N now)(hp:j7 N R M (pgG now ε)){i:Int}(s:Sat h (GA g a p q r data aE now ε::S)):
  Call ⟨Tryz.prog,told⟩ 153 [.ptr g 0,.int .i64 i,.int .i64 z] h fun v h'=>∃ai dw,EI N B ai∧Sm N ε ai∧NW N dw∧dw.length≤now.length+1∧Sat h' (GA g a p q r data aE dw ai::S) ∧
   ((¬(0≤i∧i<16∧0≤z∧z<N)∧v=.int .i64 1∧dw=now)∨(0≤i∧i<16∧0≤z∧z<N∧v=.int .i64 0∧j7 N (zu R i.toNat z.toNat) M (pgG dw ai)∧∀m,m≠0→pgG dw ai m=pgG now ε m)) :=
 (PK J (Mo.live J hB) I hw hp s).mono fun _ _ k=>k.resolve_left fun⟨_,_,_,_,_,q⟩=>q
end
theorem JP : ∀(k n:Nat),n<128^(k+1)→digits (k+1) n=digits k n:=by
 intro k
 induction k with
 |zero=>intro n I;rw[iU (by simpa using I),iU (by simpa using I)]
 |succ k J =>
  intro n I
  by_cases h:n<128
  ·rw[iU h,iU h]
  ·have hd:n/128<128^(k+1):=by
    rw[Nat.div_lt_iff_lt_mul (by omega)]
    rw[vB] at I
    exact I
   rw[digits,aj h,J _ hd,digits,aj h]
set_option maxRecDepth 10000 in
theorem Yz (h:n<256): Nat.land n 127=n%128:=by
 have:∀m:Fin 256,Nat.land m.1 127=m.1%128:=by decide
 exact this ⟨n,h⟩
theorem JQ (h:n<256): intV .and .u8 (n:Int) 127=some (.int .u8 ((n%128:Nat):Int)):=by
 have I:((n:Int)%(2^(IntKind.u8).bits:Int)).toNat=n:=by simp only[IntKind.bits];omega
 have J:((127:Int)%(2^(IntKind.u8).bits:Int)).toNat=127:=by simp[IntKind.bits]
 simp only[intV,bitsV,I,J,Yz h,wrap_u8]
 congr 2
 omega
theorem JR (I:n<18446744073709551616): convV Tryz.prog h 5 32 (.int .u8 (n:Int))=some (.int .u64 (n:Int),h):=by
 simp only[convV,Tryz.underlying5,bM,wrap_u64 I]
theorem JS (I:n<9223372036854775808): convV Tryz.prog h 5 3 (.int .u8 (n:Int))=some (.int .i64 (n:Int),h):=by
 simp only[convV,Tryz.underlying5,bF,wrap_i64 I]
theorem Ip (I:n<9223372036854775808): convV Tryz.prog h 32 3 (.int .u64 (n:Int))=some (.int .i64 (n:Int),h):=by
 simp only[convV,bM,bF,wrap_i64 I]
theorem Iq (i:Nat): (128:Nat)^i=2^(7*i):=by rw[Nat.pow_mul]
theorem abb {d:Nat}(hd:d<128)(hi:i≤8): shiftV .shl .u64 (d:Int) ((7*i:Nat):Int)=some (.int .u64 ((d*128^i:Nat):Int)):=by
 have J:(128:Nat)^i≤128^8:=qn (by omega) hi
 have I:d*128^i<18446744073709551616:=by
  have:d*128^i≤127*128^8:=nh (by omega) J
  omega
 simp only[shiftV,IntKind.bits,b7]
 rw[show min (7*i) 64=7*i by omega,show decide (((7*i:Nat):Int)<0)=false by simp;omega,aL]
 have:(d:Int)*2^(7*i)=((d*128^i:Nat):Int):=by rw[Iq];push_cast;rfl
 simp only[this,wrap_u64 I]
theorem VB {d:Nat}(I:a<128^i)(hd:d<128)(hi:i≤8): intV .or .u64 (a:Int) ((d*128^i:Nat):Int)=some (.int .u64 ((a+d*128^i:Nat):Int)):=by
 have J:(128:Nat)^i≤128^8:=qn (by omega) hi
 have hm:d*128^i≤127*128^8:=nh (by omega) J
 have h1:((a:Int)%(2^(IntKind.u64).bits:Int)).toNat=a:=by simp only[IntKind.bits];omega
 have h2:((d*128^i:Nat):Int)%(2^(IntKind.u64).bits:Int)=((d*128^i:Nat):Int):=by simp only[IntKind.bits];omega
 have h3:Nat.lor a (d*128^i)=a+d*128^i:=by
  have e:d*128^i=2^(7*i)*d:=by rw[←Iq,qu]
  have:=J0 (i:=7*i) (b:=a) (by rw[←Iq];exact I) d
  rw[←e] at this
  rw[Ad a,this]
  exact Nat.or_comm _ _
 simp only[intV,bitsV,h1,h2,b7,h3]
 rw[wrap_u64 (by omega)]
section
variable {told:cC} {c:Nat} {v w:V} {m:List Nat}
theorem lY (I:W told): Call ⟨Tryz.prog,told⟩ 251 [.bool true] h fun v h'=>v=.aO []∧h'=h:=by
 refine Call.of_wp (I.free _ rfl) Tryz.func251 rfl rfl (zg rfl (zm rfl (zh rfl (dM rfl rfl) (rfl) (zv (zj rfl (WP.skip ?_))))))
 exact⟨aa,_,rfl,rfl,rfl⟩
theorem Su (hT:W told){x:Nat}(s:Sat h (pt c (.cells 1 [v] false)::X::S))(hX:cD X (cE v (x::l))):
  Call ⟨Tryz.prog,told⟩ 247 [.ptr c 0] h fun r h'=>r=.int .u8 (x:Int)∧∃u,cD X (cE u l)∧Sat h' (pt c (.cells 1 [u] false)::X::S):=by
 have J:=s.aI (k:=1) rfl hX
 obtain⟨id,off,e1,e2⟩:=fy J (i:=0) (b:=x) rfl
 have I:=gj J (a:=1) (by simp)
 have hu:=I.2.1.cells
 refine Call.of_wp (hT.free _ rfl) Tryz.func247 rfl rfl (zK 8 rfl (zY s 0 lD b8 rfl (zo rfl (a_ rfl rfl rfl (bA aN J)) (zB rfl er (by simp) ?_))))
 refine zc rfl (lY hT) ?_
 rintro r h' ⟨rfl,rfl⟩
 refine zk 5 rfl (zY s 0 lD b8 rfl (zo rfl (cZ (r:=.ptr id off) rfl rfl e1) (zl rfl e2 (zk 7 rfl (zY s 0 lD b8 rfl (zo rfl (cj (p:=some (.int .i64 1)) (q:=none) (m:=none) (p':=some 1) (q':=none) (m':=none) rfl rfl rfl rfl rfl rfl rfl I.1) (zn rfl (zf rfl (lD _ _) (zS rfl (s.dO (k:=0) rfl iF rfl (by decide) hu.1 hu.2) ?_)))))))))
 rintro h s
 exact zk 6 rfl (WP.ret ⟨aa,_,rfl,rfl,_,qI hX (by simp),s⟩)
def Cu (h:H)(c:Nat)(X:aP)(S:List aP)(l:List Nat): Prop:=∃v,cD X (cE v l)∧Sat h (pt c (.cells 1 [v] false)::X::S)
theorem Ew (I:W told){x:Nat}(J:Cu h c X S (x::l)): Call ⟨Tryz.prog,told⟩ 247 [.ptr c 0] h fun r h'=>r=.int .u8 (x:Int)∧Cu h' c X S l:=by
 obtain⟨v,hX,s⟩:=J
 exact(Su I s hX).mono fun r h' ⟨e,u,hU,s'⟩=>⟨e,u,hU,s'⟩
noncomputable def YA : Code:=cm [1,1,0,0] ((Tryz.f248.body).getD .skip)
noncomputable def T5 : Code:=unblk (leftC YA)
noncomputable def nbC : Code:=cz (cz (cz T5))
theorem Bh (hT:W told){x:Nat}(hx:x<256)(hi:i≤8)(ha:acc<128^i)
 (hc:Cu h c X S (x::l))(h0:look E 0=some (.ptr c 0))(h2:look E 2=some (.int .u64 (acc:Int)))(I:look E 3=some (.int .i64 (i:Int)))
 (hq:∀E' h',look E' 0=some (.ptr c 0)→look E' 2=some (.int .u64 ((acc+x%128*128^i:Nat):Int))→look E' 3=some (.int .i64 (i:Int))→look E' 4=some (.int .u8 (x:Int))→Cu h' c X S l→WP ⟨Tryz.prog,told⟩ 38 nbC E' h' Q):
  WP ⟨Tryz.prog,told⟩ 38 T5 E h Q:=by
 refine WP.seq (WP.region rfl ?_)
 refine zo rfl (aS h0) ?_
 refine zc rfl (Ew hT hc) (fun v h₁ ⟨e1,c1⟩ => ?_)
 subst e1
 refine au.op rfl rfl rfl (eU rfl) (au.nil ?_)
 refine WP.seq (WP.region rfl ?_)
 refine zo rfl (aS I) (zo rfl (aq (v:=.int .i64 (i:Int)) (u:=.int .i64 9) (r:=.bool true) rfl rfl (by simp only[binV,ikBeq,ah,intV];congr 2<;>simp<;>omega)) ?_)
 refine zk 8 rfl ?_
 refine zc rfl (lY hT) (fun v J ⟨e2,om⟩=>au.nil ?_)
 subst e2;subst om
 refine WP.seq (WP.region rfl ?_)
 refine zo rfl (aS h2) (zm rfl (zo rfl (aq (v:=.int .u8 (x:Int)) (u:=.int .u8 127) rfl rfl (by simp only[binV,ikBeq,ah];exact JQ hx)) ?_))
 refine zo rfl (bO (v:=.int .u8 ((x%128:Nat):Int)) rfl (JR (by omega))) ?_
 refine zo rfl (aS I) ?_
 refine au.op rfl rfl rfl (aq (v:=.int .i64 7) (u:=.int .i64 (i:Int)) (r:=.int .i64 ((7*i:Nat):Int)) rfl rfl (by
  simp only[binV,ikBeq,ah,intV]
  rw[show(7:Int)*(i:Int)=((7*i:Nat):Int) by push_cast;rfl,wrap_i64 (by omega)])) ?_
 refine zo rfl (aq (v:=.int .u64 ((x%128:Nat):Int)) (u:=.int .i64 ((7*i:Nat):Int)) rfl rfl (by simp only[binV];exact abb (by omega) hi)) ?_
 refine zo rfl (aq (v:=.int .u64 (acc:Int)) rfl rfl (by simp only[binV,ikBeq,ah];exact VB ha (by omega) hi)) ?_
 refine au.op rfl rfl rfl (eU rfl) (au.nil ?_)
 exact hq _ _ h0 rfl I rfl c1
set_option maxRecDepth 4000 in
theorem Dd (hT:W told){m:Nat}(hi:i≤8)(hm:m<128)(hz:i=0∨0<m)(ha:acc<128^i)
 (hc:Cu h c X S (m::l))(h0:look E 0=some (.ptr c 0))(h2:look E 2=some (.int .u64 (acc:Int)))(h3:look E 3=some (.int .i64 (i:Int)))
 (hq:∀E' h',look E' 2=some (.int .u64 ((acc+m*128^i:Nat):Int))→Cu h' c X S l→Q .ret E' h'): WP ⟨Tryz.prog,told⟩ 38 (.loop YA) E h Q:=by
 refine WP.loop (WP.seq (WP.block ?_))
 refine Bh hT (x:=m) (by omega) hi ha hc h0 h2 h3 (fun E1 h₁ q0 q2 q3 q4 c1 => ?_)
 rw[nf hm] at q2
 refine WP.seq (WP.region rfl ?_)
 refine zo rfl (aS q4) ?_
 refine au.op rfl rfl rfl (aq (v:=.int .u8 (m:Int)) (u:=.int .u8 128) (r:=.bool true) rfl rfl (by simp only[binV,ikBeq,ah,intV];congr 2<;>simp<;>omega)) (au.nil ?_)
 refine WP.cond (t:=true) rfl (WP.seq (WP.region rfl ?_))
 refine zo rfl (aS q4) ?_
 by_cases EH:0<m
 ·refine au.op rfl rfl rfl (aq (v:=.int .u8 (m:Int)) (u:=.int .u8 0) (r:=.bool true) rfl rfl (by simp only[binV,ikBeq,ah,intV];congr 2<;>simp<;>omega)) ?_
  refine zk 4 rfl ?_
  refine zc rfl (lY hT) (fun v I ⟨e2,J⟩=>au.nil ?_)
  subst e2;subst J
  refine WP.seq (WP.region rfl ?_)
  exact zo rfl (aS q2) (au.op rfl rfl rfl (eU rfl) (au.nil (WP.ret (hq _ _ rfl c1))))
 ·have TS:i=0:=by omega
  have abc:m=0:=by omega
  subst TS;subst abc
  refine zo rfl (aq (v:=.int .u8 0) (u:=.int .u8 0) (r:=.bool false) rfl rfl rfl) (zm rfl (zo rfl (aS q3) (zo rfl (aq (v:=.int .i64 0) (u:=.int .i64 0) (r:=.bool true) rfl rfl rfl) (zp rfl ?_))))
  refine zc rfl (lY hT) (fun v I ⟨e2,J⟩=>au.nil ?_)
  subst e2;subst J
  refine WP.seq (WP.region rfl ?_)
  exact zo rfl (aS q2) (au.op rfl rfl rfl (eU rfl) (au.nil (WP.ret (hq _ _ rfl c1))))
set_option maxRecDepth 4000 in
theorem JT (hT:W told): ∀(k m i acc:Nat) (h:H) (E:List (Nat×V)) (Q:Ex→List (Nat×V)→H→Prop),i+k≤8→m<128^(k+1)→(i=0∨0<m)→acc<128^i →
  Cu h c X S (digits k m++l)→look E 0=some (.ptr c 0)→look E 2=some (.int .u64 (acc:Int))→look E 3=some (.int .i64 (i:Int)) →
  (∀E' h',look E' 2=some (.int .u64 ((acc+m*128^i:Nat):Int))→Cu h' c X S l→Q .ret E' h')→WP ⟨Tryz.prog,told⟩ 38 (.loop YA) E h Q:=by
 intro k
 induction k with
 |zero =>
  intro m i acc h E Q hi hm hz ha hc h0 h2 h3 hq
  have I:m<128:=by simpa using hm
  rw[iU I] at hc
  exact Dd hT (by omega) I hz ha hc h0 h2 h3 hq
 |succ k ih =>
  intro m i acc h E Q hi hm hz ha hc h0 h2 h3 hq
  by_cases I:m<128
  ·rw[iU I] at hc
   exact Dd hT (by omega) I hz ha hc h0 h2 h3 hq
  ·have hd:m/128<128^(k+1):=by
    rw[Nat.div_lt_iff_lt_mul (by omega)]
    rw[vB] at hm
    exact hm
   rw[digits,aj I] at hc
   refine WP.loop (WP.seq (WP.block ?_))
   refine Bh hT (x:=m%128+128) (by omega) (by omega) ha hc h0 h2 h3 (fun E1 h₁ q0 q2 q3 q4 c1 => ?_)
   refine WP.seq (WP.region rfl ?_)
   refine zo rfl (aS q4) ?_
   refine au.op rfl rfl rfl (aq (v:=.int .u8 ((m%128+128:Nat):Int)) (u:=.int .u8 128) (r:=.bool false) rfl rfl (by simp only[binV,ikBeq,ah,intV];congr 2<;>simp<;>omega)) (au.nil ?_)
   refine WP.cond (t:=false) rfl (WP.skip ?_)
   refine zr rfl (zo rfl (aS q3) (zo rfl (aq (v:=.int .i64 (i:Int)) (u:=.int .i64 1) (r:=.int .i64 ((i+1:Nat):Int)) rfl rfl (by exact aW (az (by omega) (by omega)))) ?_))
   refine au.op rfl rfl rfl (eU rfl) (au.nil ?_)
   have e1:(m%128+128)%128=m%128:=by omega
   rw[e1] at q2
   have J:128^(i+1)=128^i*128:=vB 128 i
   refine ih (m/128) (i+1) (acc+m%128*128^i) h₁ _ Q (by omega) hd (.inr (by omega)) ?_ c1 q0 q2 rfl (fun E' h' p1 p3=>hq E' h' ?_ p3)
   ·have:m%128*128^i≤127*128^i:=qm _ (by omega)
    rw[J];omega
   ·rw[p1]
    have:acc+m%128*128^i+m/128*128^(i+1)=acc+m*128^i:=by
     rw[J,qu (128^i) 128,←Nat.mul_assoc,oQ,←vC]
     congr 2
     omega
    rw[this]
theorem uH (I:W told)(J:n<9223372036854775808)(hc:Cu h c X S (digits 9 n++l)):
  Call ⟨Tryz.prog,told⟩ 248 [.ptr c 0] h fun v h'=>v=.int .u64 (n:Int)∧Cu h' c X S l:=by
 rw[JP 8 n (by simpa using J)] at hc
 refine Call.of_wp (I.free _ rfl) Tryz.func248 rfl rfl (zK 8 rfl (WP.block ?_))
 refine JT I 8 n 0 0 h _ _ (by omega) (by simpa using J) (.inl rfl) (by simp) hc rfl rfl rfl (fun E' h' q1 q2=>⟨aa,_,?_,rfl,q2⟩)
 have:0+n*128^0=n:=by simp
 rw[this] at q1
 show resLE _ E' h' [.tmp 2]=_
 simp only[resLE,mapO,resE,q1]
theorem xn (I:W told)(hn:n≤1048576)(J:Cu h c X S (digits 9 n++l)):
  Call ⟨Tryz.prog,told⟩ 250 [.ptr c 0] h fun v h'=>v=.int .i64 (n:Int)∧Cu h' c X S l:=by
 refine Call.of_wp (I.free _ rfl) Tryz.func250 rfl rfl (zK 7 rfl (zc rfl (uH I (by omega) J) ?_))
 rintro v h' ⟨rfl,J⟩
 refine zk 5 rfl (zB rfl yB (by simp;omega) ?_)
 refine zc rfl (lY I) ?_
 rintro v h' ⟨rfl,rfl⟩
 refine zk 4 rfl (zo rfl (bO rfl (Ip (by omega))) ?_)
 exact zk 2 rfl (WP.ret ⟨aa,_,rfl,rfl,J⟩)
theorem Ir (hT:W told)(hm:m.length≤1048576)(hc:Cu h c X S (digits 9 m.length++m++l)):
  Call ⟨Tryz.prog,told⟩ 249 [.ptr c 0] h fun v h'=>Cu h' c X (bp v m::S) l:=by
 rw[dB] at hc
 refine Call.of_wp (hT.free _ rfl) Tryz.func249 rfl rfl (zK 7 rfl (zc rfl (xn hT hm hc) ?_))
 rintro v h ⟨rfl,v,I,s⟩
 have hv:=s.aI (k:=1) rfl I
 have J:=eM hv
 refine zk 7 rfl (zY s 0 lD b8 rfl (zo rfl (a_ rfl rfl rfl (bA aN hv)) (zB rfl yB (by simp<;>omega) ?_)))
 refine zc rfl (lY hT) ?_
 rintro r h' ⟨rfl,rfl⟩
 refine zk 2 rfl ?_
 have s0:=s
 have T6:=tG hv (b:=m.length) (by simp)
 have EZ:=eM T6.2.1
 refine WP.drawn [none,none,some (0,2),some (0,2),some (0,2),some (0,2),some (0,2),some (0,2),none,none] rfl (by kernel_rfl) (by kernel_rfl) ?_
 refine zM rfl (ax.any rfl rfl rfl rfl (OpR.tI rfl s rfl rfl rfl rfl (by omega)) ?_)
 intro v2 h s
 have s:=s.ae [1,1,0]
 have uo:=eM (s.buf (k:=2) rfl).view
 have s1:=s
 have T6:=tG (s.aI (k:=1) rfl I) (b:=m.length) (by simp)
 refine zM rfl (zN rfl (zF rfl (lD _ _) (zL rfl (s.ld (k:=0) rfl b8 rfl) (zM rfl (zO rfl (cj (p:=none) (q:=some (.int .i64 (m.length:Int))) (m:=none) (p':=none) (q':=some m.length) (m':=none) rfl rfl rfl rfl rfl (by rw[cF (by omega)];rfl) rfl (tG (s.aI (k:=1) rfl I) (b:=m.length) (by simp)).1) ?_)))))
 refine ax.any rfl rfl rfl rfl (OpR.pS rfl (s.ae [2,1]) (ZT I (b:=m.length) (by simp)) rfl rfl rfl rfl (by rw[oO rfl];simp only[cr];omega)) ?_
 intro v3 h s
 have s:=s.ae [2,1,0]
 rw[oO rfl] at s
 have YB:=eM (s.buf (k:=2) rfl).view
 refine zA rfl ?_
 refine ax.nil ⟨⟨aa,aa,fun _ _=>.inr ⟨rfl,⟨_,aS rfl⟩,aB _ rfl⟩,fun _ _=>.inr ⟨rfl,⟨_,iL rfl⟩,aB _ rfl⟩,fun _ _=>.inr ⟨rfl,⟨_,g8 rfl (lD _ _)⟩,aB _ rfl⟩,dJ (.inr ⟨rfl,⟨_,aH rfl (s0.ld (k:=0) rfl b8 rfl)⟩,J⟩) (.inr ⟨rfl,⟨_,aH rfl (s1.ld (k:=0) rfl b8 rfl)⟩,J⟩),fun _ _=>.inr ⟨rfl,⟨_,aS rfl⟩,aB _ rfl⟩,dJ (.inr ⟨rfl,⟨_,cj (p:=none) (q:=some (.int .i64 (m.length:Int))) (m:=none) (p':=none) (q':=some m.length) (m':=none) rfl rfl rfl rfl rfl (by rw[cF (by omega)];rfl) rfl (tG (s0.aI (k:=1) rfl I) (b:=m.length) (by simp)).1⟩,EZ⟩) (.inr ⟨rfl,⟨_,cj (p:=none) (q:=some (.int .i64 (m.length:Int))) (m:=none) (p':=none) (q':=some m.length) (m':=none) rfl rfl rfl rfl rfl (by rw[cF (by omega)];rfl) rfl (tG (s1.aI (k:=1) rfl I) (b:=m.length) (by simp)).1⟩,EZ⟩),aa,aa,aa⟩,?_⟩
 have jT:=gj (s.aI (k:=1) rfl I) (a:=m.length) (by simp)
 have hu:=jT.2.1.cells
 refine zK 5 rfl (zY s 0 lD b8 rfl (zm rfl (zo rfl (cj (p:=some (.int .i64 (m.length:Int))) (q:=none) (m:=none) (p':=some m.length) (q':=none) (m':=none) rfl rfl rfl rfl (by rw[cF (by omega)];rfl) rfl rfl jT.1) ?_)))
 refine zn rfl (zf rfl (lD _ _) (zS rfl (s.dO (k:=0) rfl iF rfl (by decide) hu.1 hu.2) ?_))
 rintro h s
 refine zk 6 rfl (WP.ret ⟨aa,_,rfl,?_⟩)
 have hr:=qI I (a:=m.length) (by simp)
 rw[vx rfl] at hr
 exact⟨_,hr,s⟩
end
theorem T7 {t:Nat}{p v:V}(I:look E a=some p)(hd:loadV P h t p=some v): resLE P E h [.cell a t]=some v:=by simp only[resLE,mapO,resE,I,hd]
section
variable {told:cC} {c:Nat} {v w:V} {m:List Nat}
theorem MI (J:W told){x:cO}(hx:x.Ok)(hc:Cu h c X S (jl x++l)):
  Call ⟨Tryz.prog,told⟩ 252 [.ptr c 0] h fun r h'=>∃u,r=.agg [.int .i64 x.bj,.int .i64 x.pos,.bool x.whole,u]∧Cu h' c X (bp u x.b::S) l:=by
 obtain⟨x1,x2,x3,x4,x5,x6⟩:=hx
 obtain⟨pg,ps,wh,b⟩:=x
 dsimp only at x1 x2 x3 x4 x5 x6 hc
 obtain⟨pg,rfl⟩:=Int.eq_ofNat_of_zero_le x1
 obtain⟨ps,rfl⟩:=Int.eq_ofNat_of_zero_le x3
 simp only[jl,b7,dB,ie,dY] at hc
 generalize Ox:(if wh=true then 1 else 0)=wb at hc
 have yb:wb≤1:=by rw[←Ox];cases wh<;>decide
 have xO:decide ((wb:Int)=1)=wh:=by rw[←Ox];cases wh<;>rfl
 obtain⟨v,I,s⟩:=hc
 refine Call.of_wp (J.free _ rfl) Tryz.func252 rfl rfl (zg rfl ?_)
 refine au.bP s rfl rfl rfl (bR nC) (fun p2 h s => ?_)
 refine zk 4 rfl (zc rfl (xn J (by omega) ⟨v,I,s.ae [1,1,0]⟩) ?_)
 rintro v h ⟨rfl,v,I,s⟩
 refine zm rfl (zc rfl (xn J (by omega) ⟨v,I,s⟩) ?_)
 rintro v h ⟨rfl,v,I,s⟩
 refine zf rfl (AE _ _) ?_
 refine zS rfl (by exact s.dO (k:=2) rfl j6 rfl (by decide) rfl rfl) (fun h s => ?_)
 refine zf rfl (qH _ _) ?_
 refine zS rfl (by exact s.dO (k:=2) rfl j6 rfl (by decide) rfl rfl) (fun h s => ?_)
 refine zk 4 rfl (zc rfl (Ew J ⟨v,I,s⟩) ?_)
 rintro v h ⟨rfl,v,I,s⟩
 refine zk 5 rfl (zB rfl yB (by simp;omega) ?_)
 refine zc rfl (lY J) ?_
 rintro r h' ⟨rfl,rfl⟩
 refine zk 4 rfl (zo rfl (aq (r:=.bool wh) rfl rfl (by rw[←xO];exact dh)) ?_)
 refine zf rfl (AF _ _) ?_
 refine zS rfl (by exact s.dO (k:=2) rfl xJ rfl (by decide) rfl rfl) (fun h s => ?_)
 refine zk 4 rfl ?_
 rw[←dB] at I
 refine zc rfl (Ir J (by omega) ⟨v,I,s⟩) ?_
 rintro u h ⟨v,I,s⟩
 have hu:=(s.buf (k:=2) rfl).view.cells
 refine zf rfl (o9 _ _) (zS rfl (s.dO (k:=3) rfl iF rfl (by decide) hu.1 hu.2) ?_)
 rintro h s
 dsimp only[V.cells,List.length_cons,List.length_nil,Nat.reduceAdd,aK,bringA,getA,List.set,setA] at s
 refine zk 3 rfl (zl rfl (s.cK (k:=3) rfl LW pR) (zS rfl (s.fM (j:=3) rfl pR rfl (by simp only[jJ,jK,hu.2];rfl)) ?_))
 rintro h s
 refine zv ?_
 refine WP.ret ⟨aa,_,T7 rfl (s.cK (k:=3) rfl LW pR),?_⟩
 exact⟨u,rfl,v,I,s.del 3⟩
structure xo (tx pv nx:Nat)(data:List Nat)(br:List cO): Prop where
 tx:tx<9223372036854775808
 pv:pv<9223372036854775808
 nx:nx<9223372036854775808
 data:data.length≤1048576
 many:br.length≤1048576
theorem MJ (k n:Nat): 1≤(digits k n).length:=by
 cases k with
 |zero=>simp[digits]
 |succ k=>rw[digits];split<;>simp
theorem Sv (x:cO): 1≤(jl x).length:=by simp only[jl,bY,bn];omega
theorem Is : ∀l:List cO,l.length≤(l.flatMap jl).length:=by
 intro l
 induction l with
 |nil=>simp
 |cons x l I=>have:=Sv x;simp only[qq,bY,bn];omega
noncomputable def rdL : Code:=cm [1,1,1,1,1,1,1,1,0,1,0,0] ((Tryz.f221.body).getD .skip)
theorem VC (hT:W told){kd:Nat}{p2:Nat}{dt:V}(jD:∀x∈br,x.Ok)(hn:br.length≤1048576): ∀(j i:Nat) (av:V) (cs:List V) (h:H) (E:List (Nat×V)) (Q:Ex→List (Nat×V)→H→Prop),
  i+j=br.length→Cu h c X (pt p2 (.cells 6 (dK kd tx pv nx dt av) false)::.arr 4 av cs::cP cs (br.take i)::S) ((br.drop i).flatMap jl)→Has E [(0,.ptr c 0),(2,.ptr p2 0),(41,.int .i64 br.length),(42,.int .i64 i)] →
  (∀E' h' av cs,Has E' [(0,.ptr c 0),(2,.ptr p2 0)]→Cu h' c X (pt p2 (.cells 6 (dK kd tx pv nx dt av) false)::.arr 4 av cs::cP cs br::S) []→Q (.exit 2) E' h')→WP ⟨Tryz.prog,told⟩ 64 (.loop rdL) E h Q:=by
 intro j
 induction j with
 |zero =>
  intro i av cs h E Q hi hc hE hq
  refine WP.loop (WP.has hE (zg rfl (zC rfl aT (by simp;omega) ?_)))
  refine zk 3 rfl (WP.exit ?_)
  rw[gC (by omega),List.drop_of_length_le (by omega)] at hc
  exact hq _ _ _ _ ⟨rfl,rfl,aa⟩ hc
 |succ j ih =>
  intro i av cs h E Q hi hc hE hq
  have hx:br[i]?=some (br[i]'(by omega)):=bw _
  generalize (br[i]'(by omega))=x at hx
  have hxo:=jD x (bJ hx)
  have I:br.drop i=x::br.drop (i+1):=by
   obtain⟨h1,rfl⟩:=List.getElem?_eq_some_iff.1 hx
   exact oK h1
  have J:br.take (i+1)=br.take i++[x]:=by rw[vm,hx];rfl
  rw[I,qq] at hc
  obtain⟨v,hX,s⟩:=hc
  refine WP.loop (WP.has hE (zg rfl (zB rfl aT (by simp;omega) ?_)))
  refine zk 5 rfl (WP.block ?_)
  have s0:=s
  have Fk:=(s.jk (j:=3) rfl).2.2
  refine WP.drawn [some (0,3),some (0,3),af,af,af,af,af,af] rfl (by kernel_rfl) (by kernel_rfl) ?_
  refine zF rfl (ja _ _) (zL rfl (s.ld (k:=2) rfl pO rfl) (zM rfl (ax.any rfl rfl rfl rfl (OpR.call rfl rfl rfl rfl (MI hT hxo ⟨v,hX,s⟩)) ?_)))
  rintro w h ⟨u,rfl,v,hX,s⟩
  dsimp only[dK] at s
  have hu:=(s.buf (k:=2) rfl).view.cells
  have Fi:=eM (s.buf (k:=2) rfl).view
  have s1:=s
  have s:=(s.ae [2]).fX
  dsimp only[bringA,getA,aK] at s
  obtain⟨rv,h1,tQ,s2⟩:=kj (P:=Tryz.prog) (k:=4) (x:=.agg [.int .i64 x.bj,.int .i64 x.pos,.bool x.whole,u]) s hG nC pR rfl (by decide) (by decide) rfl (by simp only[V.cells,jJ,jK,hu.2];rfl)
  dsimp only[V.cells] at s2
  refine ax.any rfl rfl rfl rfl (OpR.of (R:=fun v h'=>v=rv∧h'=h1) (mC rfl tQ) ⟨rfl,rfl⟩) ?_
  rintro v' h' ⟨rfl,rfl⟩
  obtain⟨i1,jX,jd,tK⟩:=tT
  have RY:cs.length=(br.take i).length*4:=by
   obtain⟨a,b,q1,q2,q3⟩:=s2.at (k:=6) rfl
   exact mX q3
  rw[qt] at RY
  obtain⟨nR,h2,om,s3⟩:=g_ (s2.ae [5,0]) hG jX nC jd (by omega) rfl (by decide) (by simp only[bn,cr];omega)
  dsimp only[bringA,getA,aK] at s3
  refine ax.any rfl rfl rfl rfl (OpR.of (R:=fun v h'=>v=nR∧h'=h2) (ox rfl rfl om) ⟨rfl,rfl⟩) ?_
  rintro v' h' ⟨rfl,rfl⟩
  have s:=s3
  have xN:=s.jk (j:=0) rfl
  refine zF rfl (ja _ _) (ax.gY rfl rfl rfl (OpR.rH rfl rfl rfl (s.dO (k:=5) rfl Aq rfl (by decide) xN.1 xN.2.1)) ?_)
  rintro v' h ⟨rfl,s⟩
  dsimp only[Nat.reduceAdd,List.set,setA] at s
  refine ax.nil ⟨⟨fun _ _=>.inr ⟨rfl,⟨_,g8 rfl (ja _ _)⟩,aB _ rfl⟩,rG (.inr ⟨rfl,⟨_,aH rfl (s0.ld (k:=2) rfl pO rfl)⟩,Fk⟩) (.inr ⟨rfl,⟨_,aH rfl (s1.ld (k:=3) rfl pO rfl)⟩,Fk⟩) (.inr ⟨rfl,⟨_,aH rfl (s2.ld (k:=4) rfl pO rfl)⟩,Fk⟩),aa,aa,aa,aa,aa,aa,aa⟩,?_⟩
  refine zr rfl (zb rfl (by exact aW (az (by omega) (by omega))) ?_)
  refine zm rfl (zv ?_)
  have s4:Sat _ (cP cs (br.take i)::.c9 u x.b::_):=s.ae [6,2]
  have s5:=s4.two (C:=cP (cs++[.int .i64 x.bj,.int .i64 x.pos,.bool x.whole,u]) (br.take i++[x])) (bC.nP _ _) (bC.c9 _ _) fun a b q1 q2=>wZ q1 ⟨⟨⟨rfl,rfl,rfl⟩,q2⟩,aa⟩
  rw[←J] at s5
  have s6:=(s5.ae [3,3,3,1,0]).del 5
  exact ih (i+1) _ _ h _ Q (by omega) ⟨v,hX,s6⟩ ⟨rfl,rfl,rfl,rfl,aa⟩ hq
theorem VD (J:W told){kd:Nat}(hg:dN kd br=true)(hk:kd<256)(hr:xo tx pv nx data br)(hc:Cu h c X S (cI kd tx pv nx data br)):
  Call ⟨Tryz.prog,told⟩ 221 [.ptr c 0] h fun r h'=>∃dt ch cs,r=.agg (dK kd tx pv nx dt ch)∧Sat h' (X::bp dt data::.arr 4 ch cs::cP cs br::S):=by
 simp only[cI,b7,dB,ie,dY] at hc
 obtain⟨v,I,s⟩:=hc
 refine Call.of_wp (J.free _ rfl) Tryz.func221 rfl rfl (zg rfl ?_)
 refine au.bP s rfl rfl rfl (bR pP) (fun p2 h s => ?_)
 dsimp only[V.cells,List.length_cons,List.length_nil,Nat.reduceAdd] at s
 refine zk 4 rfl (zc rfl (Ew J ⟨v,I,s.ae [1,1,0]⟩) ?_)
 rintro v h ⟨rfl,v,I,s⟩
 dsimp only[aK,bringA,getA] at s
 refine zo rfl (bO rfl (JS (by omega))) ?_
 refine zf rfl (oW _ _) ?_
 refine zS rfl (by exact s.dO (k:=2) rfl j6 rfl (by decide) rfl rfl) (fun h s => ?_)
 dsimp only[Nat.reduceAdd,List.set,setA] at s
 refine zk 4 rfl (zo rfl (sB rfl rfl) (zk 5 rfl (zf rfl (D3 _ _) (zf rfl (D4 _ _) (zf rfl (Kl _ _) (zo rfl (cx rfl (by rw[ZR];rfl)) ?_))))))
 refine zk 2 rfl (WP.block (WP.loop (zg rfl (zB rfl aT (rfl) (zk 5 rfl (WP.block (zg rfl (zo rfl (yx rfl rfl (r:=.ptr p2 (0+1)) (by simp only[indexV,Ib,LY,ow,LZ];rfl)) ?_))))))))
 refine zk 5 rfl (zc rfl (uH J hr.tx ⟨v,I,s⟩) ?_)
 rintro v h ⟨rfl,v,I,s⟩
 refine zn rfl ?_
 refine zS rfl (by exact s.dO (k:=2) rfl mS rfl (by decide) rfl rfl) (fun h s => ?_)
 dsimp only[Nat.reduceAdd,List.set,setA] at s
 refine zv (zr rfl (zb rfl (by exact aW (az (by omega) (by omega))) ?_))
 refine zm rfl (zv (WP.loop (zg rfl (zt rfl (aq rfl rfl aT) (rfl) (zv (zw (zi rfl (WP.skip (zw (WP.block (zg rfl (zo rfl (yx rfl rfl (r:=.ptr p2 (0+2)) (by simp only[indexV,Ib,LY,ow,LZ];rfl)) ?_))))))))))))
 refine zk 5 rfl (zc rfl (uH J hr.pv ⟨v,I,s⟩) ?_)
 rintro v h ⟨rfl,v,I,s⟩
 refine zn rfl ?_
 refine zS rfl (by exact s.dO (k:=2) rfl mS rfl (by decide) rfl rfl) (fun h s => ?_)
 dsimp only[Nat.reduceAdd,List.set,setA] at s
 refine zv (zr rfl (zb rfl (by exact aW (az (by omega) (by omega))) ?_))
 refine zk 2 rfl (WP.loop (zg rfl (zB rfl aT (rfl) (zk 5 rfl (WP.block (zg rfl (zo rfl (yx rfl rfl (r:=.ptr p2 (0+3)) (by simp only[indexV,Ib,LY,ow,LZ];rfl)) ?_)))))))
 refine zk 5 rfl (zc rfl (uH J hr.nx ⟨v,I,s⟩) ?_)
 rintro v h ⟨rfl,v,I,s⟩
 refine zn rfl ?_
 refine zS rfl (by exact s.dO (k:=2) rfl mS rfl (by decide) rfl rfl) (fun h s => ?_)
 dsimp only[Nat.reduceAdd,List.set,setA] at s
 refine zv (zr rfl (zb rfl (by exact aW (az (by omega) (by omega))) ?_))
 refine zm rfl (zv (WP.loop (zg rfl (zh rfl (aq rfl rfl aT) (rfl) (zv (zw (zj rfl (WP.exit (zg rfl (zm rfl ?_))))))))))
 rw[←dB] at I
 refine zc rfl (Ir J hr.data ⟨v,I,s⟩) ?_
 rintro dt h ⟨v,I,s⟩
 have iJ:=(s.buf (k:=2) rfl).view.cells
 refine zf rfl (Ar _ _) (zS rfl (s.dO (k:=3) rfl iF rfl (by decide) iJ.1 iJ.2) ?_)
 rintro h s
 refine zk 4 rfl (zc rfl (xn J hr.many ⟨v,I,s⟩) ?_)
 rintro v h ⟨rfl,v,I,s⟩
 have hv:=s.aI (k:=1) rfl I
 refine zk 7 rfl (zY s 0 lD b8 rfl (zo rfl (a_ rfl rfl rfl (bA aN hv)) (zB rfl yB (by have:=Is br;simp only[gD];omega) ?_)))
 refine zc rfl (lY J) ?_
 rintro r h' ⟨rfl,rfl⟩
 refine zk 4 rfl ?_
 obtain⟨i1,jX,jd,tK⟩:=tT
 have wX:=hr.many
 obtain⟨nv,Tl,e1,s1⟩:=uq (P:=Tryz.prog) s hG jX nC jd (by omega) rfl (by decide) (by decide) (n:=0) (c:=br.length) (by omega) (by omega)
 dsimp only[repeatL] at s1
 refine au.any rfl rfl rfl (OpR.of (R:=fun v h'=>v=nv∧h'=Tl) (uk rfl rfl e1) ⟨rfl,rfl⟩) ?_
 rintro v h' ⟨rfl,rfl⟩
 have s:=s1.ae [1,1,2,0]
 have KM:=s.jk (j:=3) rfl
 refine zf rfl (ja _ _) (zS rfl (s.dO (k:=2) rfl Aq rfl (by decide) KM.1 KM.2.1) ?_)
 rintro h s
 have jD:∀x∈br,x.Ok:=fun x hx=>by
  simp only[dN,bK,vp,gD] at hg
  exact hg.2 x hx
 have s2:=((s.gh (φ:=True) aa).j5 (B:=cP [] []) fun _ _ h=>h).ae [1,1,1,1,0]
 refine zk 7 rfl (WP.block ?_)
 refine VC J jD hr.many br.length 0 _ [] h _ _ (by omega) ⟨_,I,s2⟩ ⟨rfl,rfl,rfl,rfl,aa⟩ (fun E h av cs hE hc => ?_)
 obtain⟨v,I,s⟩:=hc
 refine WP.has hE ?_
 have hv:=s.aI (k:=1) rfl I
 have iJ:=(s.buf (k:=5) rfl).view.cells
 have xN:=s.jk (j:=3) rfl
 have fW:[V.int .i64 (kd:Int),V.int .u64 (tx:Int),V.int .u64 (pv:Int),V.int .u64 (nx:Int),dt,av].all storable=true:=lF iJ.2 xN.2.1
 have fu:vY br:=⟨by omega,fun x hx=>by have:=jD x hx;unfold cO.Ok at this;omega,fun x hx=>by have:=jD x hx;unfold cO.Ok at this;omega⟩
 refine zK 4 rfl (zY s 0 lD b8 rfl (zo rfl (a_ rfl rfl rfl (bA aN hv)) (zB rfl dh (rfl) (zm rfl (zl rfl (s.cK (k:=2) rfl ju fe) (zc rfl (HC J (s.ae [3,3]) iJ.2 fu) ?_))))))
 rintro r h ⟨rfl,s⟩
 rw[hg]
 refine zq rfl (zc rfl (lY J) ?_)
 rintro r h' ⟨rfl,rfl⟩
 refine zk 3 rfl (zl rfl (s.cK (k:=4) rfl ju fe) (zS rfl (s.fM (j:=4) rfl fe rfl fW) ?_))
 rintro h s
 refine zv ?_
 refine WP.ret ⟨aa,_,T7 rfl (s.cK (k:=4) rfl ju fe),?_⟩
 exact⟨dt,av,cs,rfl,((s.ae [3,4,0,0]).del 4).del 4⟩
end
end Go.Proofs.YtiojppeahfoiaaaGreat.Am
