/- ChainFull: a part of its proof; conditions: its statement's. -/
import Derived.Test.YtefepnnfphdkpaaGreatD28
namespace Go.Proofs.YtefepnnfphdkpaaGreat.Am
open Go
section
variable {told:cz} {h:H} {S:List aq} {X Y:aq} {k:Nat} {v x:V} {b l c:List Nat} {kd link extra:Nat} {cs:List (List Nat)}
theorem yS (hT:W told){kd:Nat}(s:Sat h S)(U0:kd≤255):
  Call ⟨Tryz.prog,told⟩ 46 [.int .i64 (kd:Int)] h fun r h'=>∃u b,r=.aX [u,.int .i64 0]∧dF b kd 0 0 []∧Sat h' (aU u b::S):=by
 refine Call.of_wp (hT.free _ rfl) Tryz.func46 rfl rfl (zK 9 rfl (zh rfl (ag rfl rfl aR) (by simp) ?_))
 refine zk 2 rfl (zh rfl (ag rfl rfl gA) (by simp; omega) ?_)
 refine zk 6 rfl (az.any rfl rfl rfl (OpR.Ao rfl s rfl rfl rfl rfl (by decide)) ?_)
 intro u h s
 have hl:(List.replicate 512 0).length=512:=eT
 have hn:B0 kd=a_ ((List.replicate 512 0).set 12 kd) 16 (le 2 512):=rfl
 generalize List.replicate 512 0=l at hl hn s
 obtain ⟨kD,_,cap,_,rfl,_⟩:=s.eH (by omega)
 refine zo rfl (cM rfl (by rw [xw]; rfl)) ?_
 refine az.cJ s rfl rfl rfl (cE iR) (fun p4 h s => ?_)
 refine zS rfl (s.iw (j:=0) rfl br rfl rfl) (fun h s => ?_)
 refine zk 3 rfl (zf rfl (fL _ _) (zl rfl (s.ld (k:=0) rfl bK rfl) (zm rfl (zo rfl (cN rfl (by exact kn bR Tryz.underlying5 (Ag (by omega) (by omega)))) ?_))))
 have s:=s.ae [1,0]
 obtain ⟨J,I,e3,h2,e4,s2⟩:=kR s (i:=12) (b:=kd) (by omega) (by omega)
 have js:(l.set 12 kd).length=512:=by rw [cq,hl]
 refine zo rfl (cn (r:=.ptr J I) rfl rfl e3) (zS rfl (⟨h2,e4,s2⟩) ?_)
 rintro h s
 have s:=s.ae [1,0]
 refine zk 3 rfl (zl rfl (s.c5 (k:=0) rfl bU br) (zc rfl (nK (a:=16) (z:=2) (n:=512) hT (s.ae [1]) (by decide) (by decide) (by omega) (by omega)) ?_))
 rintro r h ⟨rfl,s⟩
 have s:=s.ae [1,0]
 refine zk 3 rfl (zf rfl (fL _ _) (zl rfl (s.ld (k:=0) rfl bK rfl) (zk 3 rfl (WP.ret ⟨aa,_,rfl,?_⟩))))
 refine ⟨_,_,rfl,dF.new (k:=kd),?_⟩
 rw [hn]
 exact s.drop
theorem G8 (I:W told){lk ex:Nat}(s:Sat h (X::S))(hX:cT X (cY v b))(J:dF b kd link extra cs)(AP:lk<4294967296)(hex:ex<4294967296):
  Call ⟨Tryz.prog,told⟩ 47 [v,.int .i64 (lk:Int),.int .i64 (ex:Int)] h fun r h'=>∃u b',r=.aX [u,.int .i64 0]∧dF b' kd lk ex cs∧Sat h' (aU u b'::X::S):=by
 have hl:=J.len
 have hle:∀n,(le 4 n).length=4:=fun n=>dK 4 n
 have l1:(a_ b 18 (le 4 lk)).length=512:=by rw [cK (by rw [hle]; omega),hl]
 refine Call.of_wp (I.free _ rfl) Tryz.func47 rfl rfl (zK 8 rfl (zc rfl (r6 I s hX (by omega)) ?_))
 rintro r h' (⟨hg,u,rfl,s⟩ | ⟨hg,rfl,s⟩)
 ·obtain ⟨kD,_,cap,_,rfl,_⟩:=s.eH (by omega)
  refine zk 3 rfl ?_
  refine az.cJ s rfl rfl rfl (cE iR) (fun p8 h s => ?_)
  dsimp only [V.cells,List.length_cons,List.length_nil,Nat.reduceAdd] at s
  refine zS rfl (s.iw (j:=0) rfl br rfl rfl) (fun h s => ?_)
  dsimp only [setA] at s
  refine zk 3 rfl (WP.block (zK 3 rfl (zh rfl (ag rfl rfl aI) (rfl) (zk 6 rfl (zh rfl (ag rfl rfl aR) (by simp) ?_)))))
  refine zk 2 rfl (zh rfl (ag rfl rfl gA) (by simp; omega) ?_)
  refine zk 3 rfl (zh rfl (ag rfl rfl aR) (by simp) ?_)
  refine zk 3 rfl (zh rfl (ag rfl rfl gA) (by simp; omega) ?_)
  refine zk 2 rfl (zv (zj rfl (WP.skip (zg rfl (zl rfl (by exact s.c5 (k:=0) rfl bU br) ?_)))))
  refine zm rfl (zo rfl (cN rfl (by exact kn bR dg (gz (by omega) (by omega)))) ?_)
  refine zc rfl (nK (a:=18) (z:=4) (n:=lk) I (s.ae [1]) (by decide) (by decide) (by omega) (by omega)) ?_
  rintro r h' ⟨rfl,s⟩
  have s:=s.ae [1,0]
  refine zk 3 rfl (zl rfl (s.c5 (k:=0) rfl bU br) (zm rfl (zo rfl (cN rfl (by exact kn bR dg (gz (by omega) (by omega)))) ?_)))
  refine zc rfl (nK (a:=22) (z:=4) (n:=ex) I (s.ae [1]) (by decide) (by decide) (by omega) (by omega)) ?_
  rintro r h' ⟨rfl,s⟩
  have s:=s.ae [1,0]
  exact zk 3 rfl (zf rfl (fL _ _) (zl rfl (s.ld (k:=0) rfl bK rfl) (zk 3 rfl (WP.ret ⟨aa,_,rfl,_,_,rfl,J.set AP hex,s.drop⟩))))
 ·rw [J.good] at hg; cases hg
theorem wz (J:W told)(s:Sat h (X::S))(I:cT X (cY v l))(hl:l.length<1073741824):
  Call ⟨Tryz.prog,told⟩ 160 [v] h fun r h'=>Sat h' (aU r l::X::S):=by
 have hv:=s.aG (k:=0) rfl I
 refine Call.of_wp (J.free _ rfl) Tryz.func160 rfl rfl (zK 7 rfl (zo rfl (aO rfl rfl rfl (aW aJ (s.aG (k:=0) rfl I))) (az.any rfl rfl rfl (OpR.rq rfl s rfl rfl rfl rfl (by omega)) ?_)))
 intro u h s
 refine zm rfl (az.any rfl rfl rfl (OpR.pI rfl s I rfl rfl rfl rfl (by simp; omega)) ?_)
 intro u2 h s
 rw [c_] at s
 exact zk 2 rfl (WP.ret ⟨aa,_,rfl,s⟩)
theorem yT (I:W told){i:Nat}(s:Sat h (X::S))(hX:cT X (cY v b))(J:dF b kd link extra cs)(hc:cs[i]?=some c):
  Call ⟨Tryz.prog,told⟩ 111 [v,.int .i64 (i:Int)] h fun r h'=>∃u,r=.aX [u,.int .i64 0]∧Sat h' (aU u c::X::S):=by
 have hl:=J.len
 have hv:=s.aG (k:=0) rfl hX
 have hi:=(List.getElem?_eq_some_iff.1 hc).1
 have eS:=J.fits
 have yo:=lR (cs:=cs) (i:=i+1)
 have K7:=lQ hc
 obtain ⟨pi,po,pc,rfl⟩:=gZ hv (by omega)
 refine Call.of_wp (I.free _ rfl) Tryz.func111 rfl rfl (zK 8 rfl (zc rfl (rC I s hX (by omega)) ?_))
 rintro r h' ⟨s,(⟨hg,rfl⟩ | ⟨hg,rfl⟩)⟩
 ·refine az.op rfl rfl rfl (b8 rfl) ?_
  refine zk 2 rfl ?_
  refine az.cJ s rfl rfl rfl (cE iR) (fun p6 h s => ?_)
  dsimp only [V.cells,List.length_cons,List.length_nil,Nat.reduceAdd] at s
  refine zS rfl (s.iw (j:=0) rfl br rfl rfl) (fun h s => ?_)
  dsimp only [setA] at s
  refine zk 3 rfl (WP.block (zK 3 rfl (zh rfl (ag rfl rfl aI) (rfl) (zk 6 rfl (zh rfl (ag rfl rfl aR) (by simp) ?_)))))
  refine zk 2 rfl (zl rfl (s.c5 (k:=0) rfl bU br) (zc rfl (jR I s (k:=1) rfl hX hl) ?_))
  rintro r h' ⟨rfl,s⟩
  rw [J.fV]
  refine zh rfl (ag rfl rfl sB) (by simp; omega) ?_
  refine zk 2 rfl (zv (zj rfl (WP.skip (zg rfl (zl rfl (by exact s.c5 (k:=0) rfl bU br) ?_)))))
  refine zm rfl (zc rfl (B1 (i:=i) I s (k:=1) rfl hX J hc) ?_)
  rintro r h' ⟨f,rfl,hr,s⟩
  refine zc rfl (wz I (s.ae [1]) hr (by omega)) ?_
  intro u h s
  exact zk 3 rfl (WP.ret ⟨aa,_,rfl,_,rfl,s.del 2⟩)
 ·rw [J.good] at hg; cases hg
end
theorem Nh : ∃i,Tryz.prog.info? 28=some i∧i.size=1∧i.bytes=24 :=
 ⟨_,(show Tryz.prog.info? 28=some ((Tryz.prog.info? 28).getD default) by kernel_rfl),by kernel_rfl,by kernel_rfl⟩
section
variable {told:cz} {h:H} {S:List aq} {X Y:aq} {k:Nat} {v x:V} {b l c c':List Nat} {kd link extra:Nat} {cs:List (List Nat)}
theorem G9 (I:W told)(s:Sat h (X::Y::S))(hX:cT X (cY v b))(hY:cT Y (cY x c))(hp:dF b kd link extra cs)(hf:26+4*(cs.length+1)+(tot cs+c.length)≤512):
  Call ⟨Tryz.prog,told⟩ 48 [v,.int .i64 (cs.length:Int),x] h fun r h'=>∃u b',r=.aX [u,.int .i64 0]∧dF b' kd link extra (cs++[c])∧Sat h' (aU u b'::X::Y::S):=by
 have hl:=hp.len
 have vU:=hp.low
 have hle:∀n,(le 2 n).length=2:=fun n=>dK 2 n
 generalize hn:cs.length=n at hf
 have J:=hp.fV
 have pS:∃lo,lo+(tot cs+c.length)=512:=⟨512-(tot cs+c.length),by omega⟩
 obtain ⟨lo,pS⟩:=pS
 have l1:(a_ b 14 (le 2 (n+1))).length=512:=by rw [cK (by rw [hle]; omega),hl]
 have js:gB (a_ b 14 (le 2 (n+1)))=lo+c.length:=by
  have:gB (a_ b 14 (le 2 (n+1)))=gB b:=BZ (by rw [hle]; omega) (by rw [hle]; omega)
  rw [this]; omega
 refine Call.of_wp (I.free _ rfl) Tryz.func48 rfl rfl (zK 8 rfl (zc rfl (r6 I s hX (by omega)) ?_))
 rintro r h' (⟨hg,u,rfl,s⟩ | ⟨hg,rfl,s⟩)
 ·obtain ⟨kD,_,cap,_,rfl,_⟩:=s.eH (by omega)
  refine zk 3 rfl ?_
  refine az.cJ s rfl rfl rfl (cE iR) (fun p8 h s => ?_)
  dsimp only [V.cells,List.length_cons,List.length_nil,Nat.reduceAdd] at s
  refine zS rfl (s.iw (j:=0) rfl br rfl rfl) (fun h s => ?_)
  dsimp only [setA] at s
  refine zk 3 rfl (WP.block (zK 3 rfl (zh rfl (ag rfl rfl aI) (rfl) (zk 6 rfl (zh rfl (ag rfl rfl aR) (by simp) ?_)))))
  refine zk 2 rfl (zl rfl (s.c5 (k:=0) rfl bU br) (zc rfl (jR I s (k:=1) rfl (bj _ _) hl) ?_))
  rintro r h' ⟨rfl,s⟩
  rw [J,hn]
  refine zh rfl (ag rfl rfl gA) (by simp) ?_
  refine zk 6 rfl (zl rfl (s.c5 (k:=0) rfl bU br) (zc rfl (Nf I (s.ae [1]) (bj _ _) hp) ?_))
  rintro r h' ⟨rfl,s⟩
  have s:=s.ae [1,0]
  dsimp only [aZ,bringA,getA] at s
  rw [hn]
  refine zm rfl (zo rfl (aO rfl rfl rfl (aW aJ (s.aG (k:=3) rfl hY))) (zb rfl (by exact bp (aA (by omega) (by omega))) ?_))
  refine zh rfl (ag rfl rfl aR) (by simp; omega) ?_
  refine za rfl (zv (zj rfl (WP.skip (zw (zg rfl (zl rfl (by exact s.c5 (k:=0) rfl bU br) ?_))))))
  refine zc rfl (Qh I s (k:=1) rfl (bj _ _) hp) ?_
  rintro r h' ⟨rfl,s⟩
  rw [hn]
  refine zm rfl (zo rfl (aO rfl rfl rfl (aW aJ (s.aG (k:=3) rfl hY))) (zb rfl (by exact bp (aA (by omega) (by omega))) ?_))
  refine zh rfl (ag rfl rfl aR) (by simp; omega) ?_
  refine zv (zj rfl (WP.skip (zg rfl (zl rfl (by exact s.c5 (k:=0) rfl bU br) ?_))))
  refine zc rfl (jR I s (k:=1) rfl (bj _ _) hl) ?_
  rintro r h' ⟨rfl,s⟩
  rw [J,hn]
  refine zk 3 rfl ?_
  have q1:((26:Int)+4*((n:Int)+1)).toNat=30+4*n:=by omega
  have q2:((26:Int)+4*(n:Int)).toNat=26+4*n:=by omega
  have s0:=s
  refine WP.drawn [ak,ak,ak,ak,ak,ak,ak,ak,ak,ak,ak,ak,ak,ak,ak,ak,ak,ak,ak,ak,ak] rfl (by kernel_rfl) (by kernel_rfl) ?_
  refine zF rfl (fL _ _) (zL rfl (s.ld (k:=0) rfl bK rfl) (zM rfl (zO rfl (ag rfl rfl (by exact bp (aA (by omega) (by omega)))) ?_)))
  refine zO rfl (ag rfl rfl (by exact jQ (aA (by omega) (by omega)))) ?_
  refine zO rfl (ag rfl rfl (by exact bp (aA (by omega) (by omega)))) ?_
  refine zM rfl (zO rfl (ag rfl rfl (by exact bp (aA (by omega) (by omega)))) ?_)
  refine zO rfl (ag rfl rfl (by exact jQ (aA (by omega) (by omega)))) ?_
  refine zO rfl (ag rfl rfl (by exact bp (aA (by omega) (by omega)))) ?_
  refine zO rfl (eF (p:=some (.int .i64 (26+4*((n:Int)+1)))) (q:=some (.int .i64 (26+4*((n:Int)+1)))) (m:=none) (p':=some (30+4*n)) (q':=some (30+4*n)) (m':=none) rfl rfl rfl rfl (by rw [fB (by omega),q1]) (by rw [fB (by omega),q1]) rfl (iS (s.buf (k:=1) rfl).view (aD _) (by omega)).1) ?_
  refine zF rfl (fL _ _) (zL rfl (s.ld (k:=0) rfl bK rfl) (zM rfl (zO rfl (ag rfl rfl (by exact jQ (aA (by omega) (by omega)))) ?_)))
  refine zO rfl (ag rfl rfl (by exact bp (aA (by omega) (by omega)))) ?_
  refine zM rfl (zO rfl (ag rfl rfl (by exact jQ (aA (by omega) (by omega)))) ?_)
  refine zO rfl (ag rfl rfl (by exact bp (aA (by omega) (by omega)))) ?_
  refine zO rfl (eF (p:=some (.int .i64 (26+4*(n:Int)))) (q:=some (.int .i64 (26+4*(n:Int)))) (m:=none) (p':=some (26+4*n)) (q':=some (26+4*n)) (m':=none) rfl rfl rfl rfl (by rw [fB (by omega),q2]) (by rw [fB (by omega),q2]) rfl (iS (s.buf (k:=1) rfl).view (aD _) (by omega)).1) ?_
  refine aB.any rfl rfl rfl rfl (OpR.T6 rfl (s.ae [1]) rfl rfl rfl rfl (by omega) (by omega) (by omega)) ?_
  intro r h s
  have s:=s.ae [1,0]
  refine aB.nil ⟨⟨aa,aa,aa,aa,aa,aa,aa,aa,aa,aa,aa,aa,aa,aa,aa,aa,aa,aa,aa,aa,aa,aa⟩,?_⟩
  refine zg rfl (zl rfl (s.c5 (k:=0) rfl bU br) (zm rfl (zb rfl (by exact bp (aA (by omega) (by omega))) ?_)))
  refine zo rfl (cN rfl (by exact kn bR dg (gz (by omega) (by omega)))) ?_
  have en:(n:Int)+1=((n+1:Nat):Int):=by omega
  rw [en]
  refine zc rfl (nK (a:=14) (z:=2) (n:=n+1) I (s.ae [1]) (by decide) (by decide) (by omega) (by omega)) ?_
  rintro r h ⟨rfl,s⟩
  have s:=s.ae [1,0]
  refine zk 3 rfl (zl rfl (s.c5 (k:=0) rfl bU br) (zk 2 rfl (zc rfl (Ng (i:=n) (lo:=lo) I (s.ae [1,2]) hY l1 (by omega) js (by omega)) ?_)))
  rintro r h ⟨rfl,s⟩
  have s:=s.ae [2,0,1,0]
  refine zk 3 rfl (zf rfl (fL _ _) (zl rfl (s.ld (k:=0) rfl bK rfl) (zk 3 rfl (WP.ret ⟨aa,_,rfl,?_⟩))))
  subst hn
  exact ⟨_,_,rfl,hp.ins hf pS,s.drop⟩
 ·rw [hp.good] at hg; cases hg
theorem G_ (hT:W told){i:Nat}(s:Sat h (X::Y::S))(hX:cT X (cY v b))(hY:cT Y (cY x c'))(J:dF b kd link extra cs)(hc:cs[i]?=some c)(Sv:c'.length=c.length):
  Call ⟨Tryz.prog,told⟩ 110 [v,.int .i64 (i:Int),x] h fun r h'=>∃u b',r=.aX [u,.int .i64 0]∧dF b' kd link extra (cs.set i c')∧Sat h' (aU u b'::X::Y::S):=by
 have hl:=J.len
 have vU:=J.low
 have eS:=J.fits
 have hi:=(List.getElem?_eq_some_iff.1 hc).1
 have yo:=lR (cs:=cs) (i:=i+1)
 have K7:=lQ hc
 have I:=J.rep hc Sv
 obtain ⟨s1,s2,s3⟩:=J.slot i c hc
 generalize hf:cP b i=f at s1 s3 I
 have l1:(a_ b f c').length=512:=by rw [cK (by omega),hl]
 refine Call.of_wp (hT.free _ rfl) Tryz.func110 rfl rfl (zK 8 rfl (zc rfl (r6 hT s hX (by omega)) ?_))
 rintro r h' (⟨hg,u,rfl,s⟩ | ⟨hg,rfl,s⟩)
 ·obtain ⟨kD,_,cap,_,rfl,_⟩:=s.eH (by omega)
  refine zk 3 rfl ?_
  refine az.cJ s rfl rfl rfl (cE iR) (fun p8 h s => ?_)
  dsimp only [V.cells,List.length_cons,List.length_nil,Nat.reduceAdd] at s
  refine zS rfl (s.iw (j:=0) rfl br rfl rfl) (fun h s => ?_)
  dsimp only [setA] at s
  refine zk 3 rfl (WP.block (zK 3 rfl (zh rfl (ag rfl rfl aI) (rfl) (zk 6 rfl (zh rfl (ag rfl rfl aR) (by simp) ?_)))))
  refine zk 2 rfl (zl rfl (s.c5 (k:=0) rfl bU br) (zc rfl (jR hT s (k:=1) rfl (bj _ _) hl) ?_))
  rintro r h' ⟨rfl,s⟩
  rw [J.fV]
  refine zh rfl (ag rfl rfl sB) (by simp; omega) ?_
  refine zk 2 rfl (zv (zj rfl (WP.skip (zg rfl (zl rfl (by exact s.c5 (k:=0) rfl bU br) ?_)))))
  refine zm rfl (zc rfl (xG (i:=i) hT s (k:=1) rfl (bj _ _) hl (by omega)) ?_)
  rintro r h' ⟨rfl,s⟩
  rw [hf,s2]
  refine zk 10 rfl (zo rfl (aO rfl rfl rfl (aW aJ (s.aG (k:=3) rfl hY))) (zm rfl (zt rfl (ag rfl rfl yD) (by simp; omega) ?_)))
  refine zk 4 rfl (zf rfl (fL _ _) (zl rfl (s.ld (k:=0) rfl bK rfl) (zm rfl ?_)))
  have kZ:=jM (s.aG (k:=1) rfl (bj _ _)) (a:=f) (by omega)
  refine zo rfl (eF (p:=some (.int .i64 (f:Int))) (q:=none) (m:=none) (p':=some f) (q':=none) (m':=none) rfl rfl rfl rfl (by rw [fB (by omega)]; rfl) rfl rfl kZ.1) ?_
  refine zm rfl (az.any rfl rfl rfl (OpR.OG rfl (s.ae [1,2]) hY rfl rfl rfl rfl (by omega) (aD _) (by omega)) ?_)
  intro r h s
  rw [dG (by omega)] at s
  have s:=s.ae [2,0,1,0]
  refine zk 3 rfl (zl rfl (s.c5 (k:=0) rfl bU br) (zk 3 rfl (zo rfl (aO rfl rfl rfl (aW aJ (s.aG (k:=3) rfl hY))) (zc rfl (AO (i:=i) (f:=f) (z:=c'.length) hT (s.ae [1]) l1 (by omega) (by omega) (by omega)) ?_))))
  rintro r h ⟨rfl,s⟩
  have s:=s.ae [1,0]
  exact zk 3 rfl (zf rfl (fL _ _) (zl rfl (s.ld (k:=0) rfl bK rfl) (zk 3 rfl (WP.ret ⟨aa,_,rfl,_,_,rfl,I,s.drop⟩))))
 ·rw [J.good] at hg; cases hg
theorem IY (hT:W told){c0 c1:List Nat}(s:Sat h (X::S))(hX:cT X (cY v b))(hp:dF b kd link extra [c0,c1]):
  Call ⟨Tryz.prog,told⟩ 140 [v] h fun r h'=>∃w u0 u1,r=.aX [w,.int .i64 0]∧Sat h' (.arr 1 w [u0,u1]::aU u0 c0::aU u1 c1::X::S):=by
 have hl:=hp.len
 have hv:=s.aG (k:=0) rfl hX
 have eS:=hp.fits
 simp only [tot,aN,bG] at eS
 obtain ⟨pi,po,pc,rfl⟩:=gZ hv (by omega)
 obtain ⟨i1,iy,fF,pP⟩:=Nh
 refine Call.of_wp (hT.free _ rfl) Tryz.func140 rfl rfl (zK 8 rfl (zc rfl (rC hT s hX (by omega)) ?_))
 rintro r h' ⟨s,(⟨hg,rfl⟩ | ⟨hg,rfl⟩)⟩
 ·refine az.op rfl rfl rfl (b8 rfl) ?_
  refine zk 2 rfl ?_
  refine az.cJ s rfl rfl rfl (cE iR) (fun p4 h s => ?_)
  dsimp only [V.cells,List.length_cons,List.length_nil,Nat.reduceAdd] at s
  refine zS rfl (s.iw (j:=0) rfl br rfl rfl) (fun h s => ?_)
  dsimp only [setA] at s
  refine zk 6 rfl (zh rfl (ag rfl rfl aI) (rfl) (zk 5 rfl (zl rfl (s.c5 (k:=0) rfl bU br) (zc rfl (jR hT s (k:=1) rfl hX hl) ?_))))
  rintro r h' ⟨rfl,s⟩
  rw [show jt b=2 from hp.fV]
  obtain ⟨wv,h1,e3,s1⟩:=oS (P:=Tryz.prog) s gm iy oz fF (by omega) rfl (by decide) (by decide) (n:=0) (c:=2) (by decide) (by decide)
  refine az.any rfl rfl rfl (OpR.of (R:=fun v h'=>v=wv∧h'=h1) (qb rfl rfl e3) ⟨rfl,rfl⟩) ?_
  rintro w0 h ⟨rfl,rfl⟩
  have s:Sat h (.arr 1 w0 []::_):=s1
  have s:=s.ae [1,1,0]
  dsimp only [bringA,getA,aZ] at s
  refine zk 5 rfl (zl rfl (s.c5 (k:=0) rfl bU br) (zc rfl (jR hT s (k:=1) rfl hX hl) ?_))
  rintro r h' ⟨rfl,s⟩
  rw [show jt b=2 from hp.fV]
  refine zk 2 rfl (WP.block (WP.loop (zg rfl (zt rfl (ag rfl rfl aR) (by decide) ?_))))
  refine zk 5 rfl (WP.block (zK 7 rfl (zl rfl (s.c5 (k:=0) rfl bU br) (zm rfl (zc rfl (B1 (i:=0) (c:=c0) hT s (k:=1) rfl hX hp rfl) ?_)))))
  rintro r h' ⟨f,rfl,hr,s⟩
  refine zc rfl (wz hT (s.ae [1]) hr (by omega)) ?_
  intro u0 h s
  have I:=(s.buf (k:=0) rfl).view.cells
  have s:=s.ae [3]
  dsimp only [aZ,bringA,getA] at s
  obtain ⟨iv,h1,AJ,s1⟩:=ku (P:=Tryz.prog) (k:=1) (x:=u0) s gm oz kI rfl (by decide) (by decide) (by rw [I.1]; rfl) (by rw [I.1]; simp only [iB,i_,I.2]; rfl)
  rw [I.1] at s1
  refine az.any rfl rfl rfl (OpR.of (R:=fun v h'=>v=iv∧h'=h1) (kg rfl AJ) ⟨rfl,rfl⟩) ?_
  rintro v' h' ⟨rfl,rfl⟩
  obtain ⟨av,h2,tQ,s2⟩:=fS (s1.ae [1,0]) gm iy oz fF (by omega) rfl (by decide) (by simp)
  dsimp only [List.nil_append,aZ,bringA] at s2
  refine az.any rfl rfl rfl (OpR.of (R:=fun v h'=>v=av∧h'=h2) (jL rfl rfl tQ) ⟨rfl,rfl⟩) ?_
  rintro v' h ⟨rfl,rfl⟩
  have s:=(s2.del 1).ae [3,2,0,0]
  dsimp only [aZ,bringA,getA] at s
  refine za rfl (zv (zr rfl (zb rfl (by exact bp (aA (by omega) (by omega))) ?_)))
  refine zm rfl (zv (WP.loop (zg rfl (zt rfl (ag rfl rfl aR) (by decide) ?_))))
  refine zk 5 rfl (WP.block (zK 7 rfl (zl rfl (s.c5 (k:=0) rfl bU br) (zm rfl (zc rfl (B1 (i:=1) (c:=c1) hT s (k:=1) rfl hX hp rfl) ?_)))))
  rintro r h' ⟨f1,rfl,OF,s⟩
  refine zc rfl (wz hT (s.ae [1]) OF (by omega)) ?_
  intro u1 h s
  have J:=(s.buf (k:=0) rfl).view.cells
  have s:=s.ae [3]
  dsimp only [aZ,bringA,getA] at s
  obtain ⟨Yf,h1,AJ,s1⟩:=ku (P:=Tryz.prog) (k:=1) (x:=u1) s gm oz kI rfl (by decide) (by decide) (by rw [J.1]; rfl) (by rw [J.1]; simp only [iB,i_,J.2]; rfl)
  rw [J.1] at s1
  refine az.any rfl rfl rfl (OpR.of (R:=fun v h'=>v=Yf∧h'=h1) (kg rfl AJ) ⟨rfl,rfl⟩) ?_
  rintro v' h' ⟨rfl,rfl⟩
  obtain ⟨Yg,h2,tQ,s2⟩:=fS (s1.ae [1,0]) gm iy oz fF (by omega) rfl (by decide) (by simp)
  dsimp only [List.cons_append,List.nil_append,aZ,bringA] at s2
  refine az.any rfl rfl rfl (OpR.of (R:=fun v h'=>v=Yg∧h'=h2) (jL rfl rfl tQ) ⟨rfl,rfl⟩) ?_
  rintro v' h ⟨rfl,rfl⟩
  have s:=(s2.del 1).ae [3,2,0,1,0]
  dsimp only [aZ,bringA,getA] at s
  refine za rfl (zv (zr rfl (zb rfl (by exact bp (aA (by omega) (by omega))) ?_)))
  refine zm rfl (zv (WP.loop (zg rfl (zh rfl (ag rfl rfl aR) (by decide) ?_))))
  exact zk 3 rfl (WP.exit (zK 6 rfl (WP.ret ⟨aa,_,rfl,_,_,_,rfl,(s.ae [2,2,2,1]).del 4⟩)))
 ·rw [hp.good] at hg; cases hg
end
def Sm (N:Nat)(ε ε':aF): Prop:=(∀m,pgA ε' m=pgA ε m)∧∀P:VP,pK N P→vw P ε→vw P ε'
theorem Sm.refl (N:Nat)(ε:aF): Sm N ε ε:=⟨fun _=>rfl,fun _ _ h=>h⟩
theorem Sm.trans {N:Nat}{a b c:aF}(h:Sm N a b)(g:Sm N b c): Sm N a c:=⟨fun m=>(g.1 m).trans (h.1 m),fun P I hv=>g.2 P I (h.2 P I hv)⟩
structure mo (told : cz) (N B : Nat) (rv : V) (A : aF → aq) (pg : aF → Int → List Nat) : Prop where
 iface : ∃ ty u f, rv = .iface ty u ∧ methV Tryz.prog ty "Read" = some f ∧ ∀ {h : H} {S : List aq} {ε : aF} {n : Int}, EI N B ε → 0 ≤ n → n < N → Sat h (A ε :: S) →
  Call ⟨Tryz.prog, told⟩ f [u, .int .i64 n] h fun v h' => ∃ w ε', v = .aX [w, .int .i64 0] ∧ EI N B ε' ∧ Sm N ε ε' ∧ Sat h' (aU w (pg ε n) :: A ε' :: S)
 same : ∀ {ε ε' : aF}, Sm N ε ε' → ∀ m, pg ε' m = pg ε m
section
variable {P:Program} {h:H} {S:List aq} {k id off i:Nat} {v c:V} {cs:List V} {t te t':TypeId}
theorem Sat.wA (s:Sat h S)(hk:getA S k=some (.arr 1 v cs))(hi:cs[i]?=some c)(hu:P.underlying t=some (.slice te))(I:bk P te=some 1)(e:indexAddrV P t v (.int .i64 (i:Int))=some (.ptr id off))(ha:b6 P t'=some false): loadV P h t' (.ptr id off)=some c:=by
 obtain ⟨J,off',e1,e2⟩:=gQ s hk hi hu I
 rw [e] at e1
 have e3:V.ptr id off=V.ptr J off':=bE e1
 rw [e3]; exact e2 _ ha
theorem He {E:List (Nat×V)}{s d:TypeId}{x:Operand}{v r:V}{h₁:H}(I:lookO E x=some v)(J:convV P h s d v=none)(h2:convB P h s d v=some (r,h₁)): opE P E h (.convert s d x)=some (r,h₁):=by
 simp only [opE,iL,I,J,h2]
end
def fO : List Nat:=[109,117,110,105,109,101,110,116]
theorem Ni {h:H}: buildSliceV Tryz.prog h 28 8 [(0,.int .u8 109),(1,.int .u8 117),(2,.int .u8 110),(3,.int .u8 105),(4,.int .u8 109),(5,.int .u8 101),(6,.int .u8 110),(7,.int .u8 116)]=some (.sl h.next 0 8 (.exact 8),newRow h (ofBytes fO)):=by
 simp only [buildSliceV,aJ,dM,ow,V.cells]
 rfl
theorem uG {P:Program}{h:H}{t:TypeId}{x y:Operand}{a b:Nat}(J:0<b)(hw:a<9223372036854775808): binV P h .quo t x y (.int .i64 (a:Int)) (.int .i64 (b:Int))=some (.int .i64 ((a/b:Nat):Int)):=by
 simp only [binV,ikBeq,af,intV]
 have:intBeq (b:Int) 0=false:=by rw [kJ]; simp; omega
 have I:a/b≤a:=sY a b
 rw [this,ay,F5 (by omega),←Int.natCast_ediv]
 generalize a/b=q at I ⊢
 rw [aA (by omega) (by omega)]
section
variable {told:cz} {h:H} {S:List aq} {X Y:aq} {N B n:Nat} {v x y rv:V} {b l c R M:List Nat} {kd link extra:Nat} {cs:List (List Nat)} {A:aF→aq} {pg:aF→Int→List Nat} {ε:aF}
theorem Ew (J:W told)(s:Sat h S): Call ⟨Tryz.prog,told⟩ 74 [] h fun r h'=>Sat h' (.cy r fO::S):=by
 refine Call.of_wp (J.free _ rfl) Tryz.func74 rfl rfl (zK 6 rfl (az.any rfl rfl rfl (OpR.of (R:=fun v h'=>v=.sl h.next 0 8 (.exact 8)∧h'=newRow h (ofBytes fO)) (kg rfl Ni) ⟨rfl,rfl⟩) ?_))
 rintro v I ⟨rfl,rfl⟩
 have s1:Sat (newRow h (ofBytes fO)) (pt h.next (.cells 8 (ofBytes fO) false)::S):=s.new _
 generalize newRow h (ofBytes fO)=I at s1
 generalize h.next=id at s1
 have hg:=s1.row (k:=0) rfl
 have e1:convB Tryz.prog I 28 28 (.sl id 0 8 (.exact 8))=some (.sl id 0 8 (.exact 8),I.put id (some (.cells 8 (ofBytes fO) true))):=by
  simp only [convB,aJ,Tryz.underlying5,hg]
  rfl
 have e0:convV Tryz.prog I 28 28 (.sl id 0 8 (.exact 8))=none:=by
  simp only [convV,aJ]
 have s2:Sat (I.put id (some (.cells 8 (ofBytes fO) true))) (pt id (.cells 8 (ofBytes fO) true)::S):=s1.put (k:=0) rfl
 have s3:Sat (I.put id (some (.cells 8 (ofBytes fO) true))) (.cy (.sl id 0 8 (.exact 8)) fO::S):=s2.freeze.hU (B:=.cy (.sl id 0 8 (.exact 8)) fO) fun m r hm=>⟨by decide,.inr ⟨id,0,.exact 8,8,_,true,rfl,hm,rfl,by decide,rfl,by decide⟩⟩
 refine az.any rfl rfl rfl (OpR.of (R:=fun v h'=>v=.sl id 0 8 (.exact 8)∧h'=I.put id (some (.cells 8 (ofBytes fO) true))) (He rfl e0 e1) ⟨rfl,rfl⟩) ?_
 rintro v h2 ⟨rfl,rfl⟩
 exact zk 2 rfl (WP.ret ⟨aa,_,rfl,s3⟩)
theorem K_ (J:W told)(hx:View h x l)(hy:View h y c): Call ⟨Tryz.prog,told⟩ 141 [x,y] h fun r h'=>r=.bool (decide (l=c))∧h'=h:=by
 refine Call.of_wp (J.free _ rfl) Tryz.func141 rfl rfl (zK 7 rfl (zo rfl (cN rfl (KV hx)) (zm rfl (zo rfl (cN rfl (KV hy)) ?_))))
 by_cases I:l=c
 ·skip
  exact zt rfl (ag rfl rfl Ia) (decide_eq_true I) (zk 2 rfl (WP.ret ⟨aa,_,rfl,by rw [cZ I],rfl⟩))
 ·skip
  exact zh rfl (ag rfl rfl Ia) (decide_eq_false I) (zk 2 rfl (WP.ret ⟨aa,_,rfl,by rw [dm I],rfl⟩))
theorem rK (I:W told)(J:1≤n)(h2:n≤3000): Call ⟨Tryz.prog,told⟩ 54 [.int .i64 (n:Int)] h fun r h'=>r=.int .i64 2∧h'=h:=by
 have e:(n+2999)/3000=1:=by omega
 refine Call.of_wp (I.free _ rfl) Tryz.func54 rfl rfl (zK 7 rfl (zb rfl (by exact bp (aA (by omega) (by omega))) ?_))
 refine zb rfl (by exact jj (aA (by omega) (by omega))) ?_
 refine zo rfl (ag (r:=.int .i64 (((n+2999)/3000:Nat):Int)) rfl rfl (by rw [show (n:Int)+3000-1=((n+2999:Nat):Int) by omega]; exact uG (by decide) (by omega))) ?_
 rw [e]
 refine zb rfl (by exact bp (aA (by omega) (by omega))) ?_
 exact zk 2 rfl (WP.ret ⟨aa,_,rfl,rfl,rfl⟩)
theorem Nj (hT:W told)(hR:mo told N B rv A pg)(eB:EI N B ε)(hN:1≤N)(hp:dF (pg ε 0) 201 n extra [fO,R])(La:R.length=64)(s:Sat h (A ε::S)):
  Call ⟨Tryz.prog,told⟩ 91 [rv] h fun v h'=>∃u ε',v=.aX [u,.int .i64 (n:Int),.bool true,.int .i64 0]∧EI N B ε'∧Sm N ε ε'∧Sat h' (aU u R::A ε'::S):=by
 obtain ⟨ty,u,f,rfl,hm,fU⟩:=hR.iface
 refine Call.of_wp (hT.free _ rfl) Tryz.func91 rfl rfl (zK 10 rfl (az.any rfl rfl rfl (OpR.invoke rfl rfl rfl hm rfl (fU eB (by decide) (by omega) s)) ?_))
 rintro v h ⟨u,ε',rfl,pQ,hs,s⟩
 refine zk 10 rfl (zh rfl (ag rfl rfl aI) (rfl) (zk 6 rfl (zc rfl (IY hT s (bj _ _) hp) ?_)))
 rintro v h ⟨w,u0,u1,rfl,s⟩
 obtain ⟨U1,I,g1,g2⟩:=gQ (P:=Tryz.prog) s (k:=0) (i:=0) (c:=u0) rfl rfl gm kI
 obtain ⟨U2,J,g3,g4⟩:=gQ (P:=Tryz.prog) s (k:=0) (i:=1) (c:=u1) rfl rfl gm kI
 have Ey:=(s.kV (j:=0) rfl).2.2
 have vg:=jd (s.buf (k:=1) rfl).view
 refine zk 8 rfl ?_
 have s0:=s
 refine WP.drawn [ak,ak,ak,ak,ak,ak,ak,ak,some (0,2),some (0,2),some (0,2),ak,ak,ak,ak,ak,ak,ak,ak,ak,ak,ak] rfl (by kernel_rfl) (by kernel_rfl) ?_
 refine zM rfl (aB.nE rfl rfl rfl rfl (ag rfl rfl aI) (by decide) ?_)
 refine zM rfl (zM rfl (zO rfl (aO rfl rfl rfl (s.dJ (n:=2) (j:=0) rfl rfl (by decide) gm)) ?_))
 refine aB.nE rfl rfl rfl rfl (ag rfl rfl aI) (by decide) ?_
 refine zO rfl (kf rfl rfl) (zM rfl (zM rfl (zO rfl (cn (r:=.ptr U1 I) rfl rfl g1) (zL rfl (s.wA (k:=0) (i:=0) rfl rfl gm kI g1 bK) (aB.any rfl rfl rfl rfl (OpR.call rfl rfl rfl rfl (Ew hT s)) ?_)))))
 intro mv h s
 have s:=s.ae [1,1,1,1,1,0]
 have s1:=s
 refine aB.any rfl rfl rfl rfl (OpR.call rfl rfl rfl rfl (K_ hT (s.buf (k:=1) rfl).view (s.aG (k:=5) rfl (c8 _ _)))) ?_
 rintro r h' ⟨rfl,rfl⟩
 rw [show decide (fO=fO)=true from cZ rfl]
 refine zO rfl (eY rfl rfl) (zO rfl (kf rfl rfl) (zM rfl (zM rfl (zO rfl (cn (r:=.ptr U2 J) rfl rfl g3) (zL rfl (s.wA (k:=0) (i:=1) rfl rfl gm kI g3 bK) (zO rfl (aO rfl rfl rfl (aW aJ (s.aG (k:=2) rfl (bj _ _)))) ?_))))))
 rw [La]
 refine aB.nE rfl rfl rfl rfl (ag rfl rfl aI) (by decide) ?_
 refine zO rfl (kf rfl rfl) ?_
 refine aB.nil ⟨⟨aa,aa,aa,aa,aa,aa,aa,aa,fun _ _=>.inr ⟨rfl,⟨_,b8 rfl⟩,Ey⟩,fun _ _=>.inr ⟨rfl,⟨_,cn (r:=.ptr U1 I) rfl rfl g1⟩,bP _ rfl⟩,eZ (.inr ⟨rfl,⟨_,aS rfl (s0.wA (k:=0) (i:=0) rfl rfl gm kI g1 bK)⟩,vg⟩) (.inr ⟨rfl,⟨_,aS rfl (s1.wA (k:=0) (i:=0) rfl rfl gm kI g1 bK)⟩,vg⟩),aa,aa,aa,aa,aa,aa,aa,aa,aa,aa,aa,aa⟩,?_⟩
 refine zK 5 rfl ?_
 have vn:=hp.len
 refine zc rfl (xH hT (s.ae [3]) (bj _ _) (by omega)) ?_
 rintro v h ⟨s,(⟨hg,rfl⟩ | ⟨hg,rfl⟩)⟩
 ·rw [show (pg ε 0).getD 12 0=201 from hp.kind,show cQ (pg ε 0) 18 4=n from hp.link]
  have s:=s.ae [1,1,1,1,0]
  refine zk 16 rfl (zh rfl (ag rfl rfl aI) (by decide) ?_)
  exact zk 6 rfl (zo rfl (cn (r:=.ptr U2 J) rfl rfl g3) (zl rfl (s.wA (k:=0) (i:=1) rfl rfl gm kI g3 bK) (zk 6 rfl (WP.ret ⟨aa,_,rfl,_,ε',rfl,pQ,hs,(((((s.ae [2,2]).del 5).del 4).del 3).del 2)⟩))))
 ·rw [hp.good] at hg; cases hg
theorem qN (hT:W told)(hR:mo told N B rv A pg)(J:EI N B ε)(hN:1≤N)(hp:dF (pg ε 0) 201 n extra [fO,R])(La:R.length=64)(s:Sat h (A ε::S)):
  Call ⟨Tryz.prog,told⟩ 53 [rv] h fun v h'=>∃u ε',v=.aX [u,.int .i64 (n:Int),.int .i64 0]∧EI N B ε'∧Sm N ε ε'∧Sat h' (aU u R::A ε'::S):=by
 refine Call.of_wp (hT.free _ rfl) Tryz.func53 rfl rfl (zK 9 rfl (zc rfl (Nj hT hR J hN hp La s) ?_))
 rintro v h ⟨u,ε',rfl,I,hs,s⟩
 refine zk 9 rfl (zv (zw (WP.block (zg rfl (zm rfl (zh rfl (ag rfl rfl aI) (rfl) (za rfl (zv (zj rfl (zg rfl (zm rfl (zo rfl (eY rfl rfl) (za rfl (zv (zj rfl (WP.skip (zg rfl (zk 5 rfl (zv ?_)))))))))))))))))))
 refine WP.ret ⟨aa,_,rfl,?_⟩
 exact ⟨u,ε',rfl,I,hs,s⟩
theorem Qi (J:W told)(hR:mo told N B rv A pg)(eB:EI N B ε)(hN:1≤N)(hp:dF (pg ε 0) 201 n extra [fO,R])(La:R.length=64)(h1:1≤n)(h2:n≤3000)(s:Sat h (A ε::S)):
  Call ⟨Tryz.prog,told⟩ 66 [rv] h fun v h'=>∃ε',v=.aX [.int .i64 2,.int .i64 0]∧EI N B ε'∧Sm N ε ε'∧Sat h' (A ε'::S):=by
 refine Call.of_wp (J.free _ rfl) Tryz.func66 rfl rfl (zK 8 rfl (zc rfl (qN J hR eB hN hp La s) ?_))
 rintro v h ⟨u,ε',rfl,I,hs,s⟩
 refine zk 12 rfl (zh rfl (ag rfl rfl aI) (rfl) (zk 6 rfl (zc rfl (rK J h1 h2) ?_)))
 rintro v h' ⟨rfl,rfl⟩
 exact zk 3 rfl (WP.ret ⟨aa,_,rfl,ε',rfl,I,hs,s.drop⟩)
theorem oH (hT:W told)(hR:mo told N B rv A pg)(J:EI N B ε)(hN:2≤N)(hp:dF (pg ε 1) kd link extra [M])(hM:M.length=375)(s:Sat h (A ε::S)):
  Call ⟨Tryz.prog,told⟩ 55 [rv,.int .i64 0] h fun v h'=>∃w u ε',v=.aX [w,u,.int .i64 0]∧EI N B ε'∧Sm N ε ε'∧Sat h' (aU u M::aU w (pg ε 1)::A ε'::S):=by
 obtain ⟨ty,u,f,rfl,hm,fU⟩:=hR.iface
 refine Call.of_wp (hT.free _ rfl) Tryz.func55 rfl rfl (zK 11 rfl (zb rfl (by exact bp (aA (by omega) (by omega))) ?_))
 refine az.any rfl rfl rfl (OpR.invoke rfl rfl rfl hm rfl (fU (n:=1) J (by decide) (by omega) s)) ?_
 rintro v h ⟨w,ε',rfl,I,hs,s⟩
 refine zk 9 rfl (zh rfl (ag rfl rfl aI) (rfl) (zk 6 rfl (zc rfl (yT (i:=0) hT s (bj _ _) hp rfl) ?_)))
 rintro v h ⟨u,rfl,s⟩
 refine zk 10 rfl (zh rfl (ag rfl rfl aI) (rfl) (zk 2 rfl (zo rfl (aO rfl rfl rfl (aW aJ (s.aG (k:=0) rfl (bj _ _)))) ?_)))
 rw [hM]
 refine zh rfl (ag rfl rfl aI) (by decide) ?_
 exact zk 12 rfl (WP.ret ⟨aa,_,rfl,w,u,ε',rfl,I,hs,s⟩)
end
def bt (M:List Nat)(i:Nat): Bool:=(M.getD (i/8) 0).testBit (i%8)
def AQ (M:List Nat)(i:Nat): List Nat:=M.set (i/8) (Nat.lor (M.getD (i/8) 0) (2^(i%8)))
def Ez (M:List Nat)(i:Nat): List Nat:=M.set (i/8) (Nat.land (M.getD (i/8) 0) (255-2^(i%8)))
theorem EA {M:List Nat}{i j b:Nat}(hi:i<M.length): (M.set i b).getD j 0=if i=j then b else M.getD j 0:=by
 rw [dN,wP]
 by_cases h:i=j
 ·subst h; rw [ax rfl,ax rfl,ax hi]; rfl
 ·rw [ai h,ai h,dN]
theorem OH {M:List Nat}{i j:Nat}(hi:i/8<M.length): bt (AQ M i) j=if j=i then true else bt M j:=by
 unfold bt AQ
 rw [EA hi]
 by_cases h:i/8=j/8
 ·rw [ax h,show Nat.lor (M.getD (i/8) 0) (2^(i%8))=(M.getD (i/8) 0) ||| (2^(i%8)) from rfl,Nat.testBit_or,A5,h]
  by_cases I:j=i
  ·subst I; simp
  ·rw [ai I,show decide (i%8=j%8)=false from dm (by omega),Bool.or_false]
 ·rw [ai h,ai (by intro e; exact h (by rw [e]))]
theorem OI {M:List Nat}{i j:Nat}(hi:i/8<M.length): bt (Ez M i) j=if j=i then false else bt M j:=by
 unfold bt Ez
 rw [EA hi]
 by_cases h:i/8=j/8
 ·have e:255-2^(i%8)=2^8-(2^(i%8)+1):=by omega
  have I:2^(i%8)<2^8:=sL (by decide) (by omega)
  rw [ax h,show Nat.land (M.getD (i/8) 0) (255-2^(i%8))=(M.getD (i/8) 0) &&& (255-2^(i%8)) from rfl,Nat.testBit_and,e,Nat.testBit_two_pow_sub_succ I,A5,h]
  by_cases J:j=i
  ·subst J; simp
  ·rw [ai J,show decide (i%8=j%8)=false from dm (by omega),show decide (j%8<8)=true from cZ (by omega)]
   simp
 ·rw [ai h,ai (by intro e; exact h (by rw [e]))]
theorem Hf {M:List Nat}{i:Nat}: (AQ M i).length=M.length:=cq
theorem Hg {M:List Nat}{i:Nat}: (Ez M i).length=M.length:=cq
theorem Lb {a k:Nat}(I:a<256)(J:k<8): Nat.lor a (2^k)<256:=Nat.or_lt_two_pow (n:=8) I (sL (by decide) J)
theorem B2 {a c:Nat}(I:a<256): Nat.land a c<256:=A8 Nat.and_le_left I
def qi (x:Nat): Nat:=((List.range 8).filter fun i=>x.testBit i).length
def jT (x:Nat): Nat:=((List.range 8).filter fun i => !x.testBit i).headD 8
theorem Hh : ∀x,x<255→jT x<8∧x.testBit (jT x)=false∧∀j,j<jT x→x.testBit j=true:=by
 have:∀x,x<255→(decide (jT x<8)&&(!x.testBit (jT x)&&(List.range (jT x)).all fun j=>x.testBit j))=true:=by decide +kernel
 intro x I
 have h:=this x I
 simp only [aH,dz,sS,ob,wT] at h
 exact ⟨h.1,h.2.1,h.2.2⟩
theorem Wj : ∀x,x<256→(∀j,j<8→x.testBit j=true)→x=255:=by
 have:∀x,x<256→((List.range 8).all fun j=>x.testBit j)=true→x=255:=by decide +kernel
 intro x I h
 exact this x I (List.all_eq_true.2 fun j J=>h j (List.mem_range.1 J))
theorem xJ {M:List Nat}{k j:Nat}(I:j<8): bt M (8*k+j)=(M.getD k 0).testBit j:=by
 unfold bt
 rw [show (8*k+j)/8=k by omega,show (8*k+j)%8=j by omega]
section
variable {P:Program} {h:H} {t:TypeId} {x y:Operand} {a b k:Nat}
theorem Lc (I:k<8): binV P h .shr t x y (.int .u8 (a:Int)) (.int .i64 (k:Int))=some (.int .u8 ((a/2^k:Nat):Int)):=by
 simp only [binV,shiftV,IntKind.bits,bZ]
 rw [show decide ((k:Int)<0)=false by simp,ay,show min k 8=k by omega]
 have e:(2:Int)^k=((2^k:Nat):Int):=by push_cast; rfl
 rw [e,wK _ (Int.natCast_nonneg _),←Int.natCast_ediv]
theorem Sw (J:k<8): binV P h .shl t x y (.int .u8 1) (.int .i64 (k:Int))=some (.int .u8 ((2^k:Nat):Int)):=by
 have I:2^k<256:=sL (a:=2) (n:=8) (by decide) J
 simp only [binV,shiftV,IntKind.bits,bZ]
 rw [show decide ((k:Int)<0)=false by simp,ay,show min k 8=k by omega]
 have e:(1:Int)*2^k=((2^k:Nat):Int):=by rw [Int.one_mul]; push_cast; rfl
 rw [e]
 generalize (2^k:Nat)=q at I ⊢
 rw [Ag (by omega) (by omega)]
theorem xK {op:BinOp}{f:Nat→Nat→Nat}(ha:a<256)(hb:b<256)(hf:f a b<256)(he:bitsV op .u8 (a:Int) (b:Int)=some (.int .u8 (IntKind.u8.wrap (f ((a:Int)%(2^(IntKind.u8).bits:Int)).toNat ((b:Int)%(2^(IntKind.u8).bits:Int)).toNat:Nat)))):
  bitsV op .u8 (a:Int) (b:Int)=some (.int .u8 ((f a b:Nat):Int)):=by
 have I:((a:Int)%(2^(IntKind.u8).bits:Int)).toNat=a:=by simp only [IntKind.bits]; omega
 have J:((b:Int)%(2^(IntKind.u8).bits:Int)).toNat=b:=by simp only [IntKind.bits]; omega
 rw [he,I,J,Ag (by omega) (by omega)]
theorem Ld (I:a<256)(J:b<256): binV P h .and t x y (.int .u8 (a:Int)) (.int .u8 (b:Int))=some (.int .u8 ((Nat.land a b:Nat):Int)):=by
 simp only [binV,ikBeq,af,intV]
 exact xK (f:=Nat.land) I J (B2 I) rfl
theorem T7 (I:a<256)(J:k<8): binV P h .or t x y (.int .u8 (a:Int)) (.int .u8 ((2^k:Nat):Int))=some (.int .u8 ((Nat.lor a (2^k):Nat):Int)):=by
 simp only [binV,ikBeq,af,intV]
 exact xK (f:=Nat.lor) I (sL (a:=2) (n:=8) (by decide) J) (Lb I J) rfl
theorem Le (I:a<256)(J:b<256): binV P h .andNot t x y (.int .u8 (a:Int)) (.int .u8 (b:Int))=some (.int .u8 ((Nat.land a (255-b):Nat):Int)):=by
 simp only [binV,ikBeq,af,intV]
 exact xK (f:=fun a b=>Nat.land a (255-b)) I J (B2 I) rfl
theorem EB (I:a<256): unV .xor (.int .u8 (a:Int))=some (.int .u8 ((255-a:Nat):Int)):=by
 have:∀a,a<256→Nat.xor 255 a=255-a:=by decide +kernel
 simp only [unV]
 have e:bitsV .xor .u8 ((255:Nat):Int) (a:Int)=some (.int .u8 ((Nat.xor 255 a:Nat):Int)):=xK (f:=Nat.xor) (by decide) I (by rw [this a I]; omega) rfl
 rw [this a I] at e
 exact e
theorem Sx : Nat.land (a/2^k) 1=if a.testBit k=true then 1 else 0:=by
 rw [F2,show Nat.land (a/2^k) 1=(a/2^k) &&& 1 from rfl,Nat.and_one_is_mod]
 by_cases h:a/2^k%2=1
 ·rw [h,ax (decide_eq_true rfl)]
 ·rw [ai (by simpa using h)]; omega
theorem Lf {f:Nat→Nat}{L:List Nat}(hu:P.underlying t=some .string)(I:∀x,x<256→nth L x=some (f x))(J:a<256): indexV P t (.str L) (.int .u8 (a:Int))=some (.int .u8 ((f a:Nat):Int)):=by
 simp only [indexV,hu,bZ,I a J]
 rw [show decide ((0:Int)≤(a:Int))=true by simp,af]
end
end Go.Proofs.YtefepnnfphdkpaaGreat.Am
