/- ChainNeeds: a part of its proof; conditions: its statement's. -/
import Derived.Test.YtefepnnfphdkpaaGreatB28
namespace Go.Proofs.YtefepnnfphdkpaaGreat.Am
open Go
section
variable {told:cK} {h:H} {S:List aq} {X Y:aq} {k:Nat} {v x:V} {b l c:List Nat} {kd link extra:Nat} {cs:List (List Nat)}
theorem xo (hT:W told){kd:Nat}(s:Sat h S)(SB:kd≤255):
  Call ⟨Tryz.prog,told⟩ 46 [.int .i64 (kd:Int)] h fun r h'=>∃u b,r=.aX [u,.int .i64 0]∧dF b kd 0 0 []∧Sat h' (aP u b::S):=by
 refine Call.of_wp (hT.free _ rfl) Tryz.func46 rfl rfl (zK 9 rfl (zh rfl (ag rfl rfl bf) (by simp) ?_))
 refine zk 2 rfl (zh rfl (ag rfl rfl fY) (by simp; omega) ?_)
 refine zk 6 rfl (az.any rfl rfl rfl (OpR.yz rfl s rfl rfl rfl rfl (by decide)) ?_)
 intro u h s
 have hl:(List.replicate 512 0).length=512:=eE
 have hn:AN kd=aT ((List.replicate 512 0).set 12 kd) 16 (le 2 512):=rfl
 generalize List.replicate 512 0=l at hl hn s
 obtain ⟨jR,_,cap,_,rfl,_⟩:=s.eo (by omega)
 refine zo rfl (cX rfl (by rw [vM]; rfl)) ?_
 refine az.cr s rfl rfl rfl (ck ik) (fun p4 h s => ?_)
 refine zS rfl (s.gQ (j:=0) rfl a_ rfl rfl) (fun h s => ?_)
 refine zk 3 rfl (zf rfl (fg _ _) (zl rfl (s.ld (k:=0) rfl bK rfl) (zm rfl (zo rfl (cH rfl (by exact jQ bN Tryz.underlying5 (yp (by omega) (by omega)))) ?_))))
 have s:=s.ae [1,0]
 obtain ⟨J,I,e3,h2,e4,s2⟩:=kf s (i:=12) (b:=kd) (by omega) (by omega)
 have je:(l.set 12 kd).length=512:=by rw [b7,hl]
 refine zo rfl (dm (r:=.ptr J I) rfl rfl e3) (zS rfl (⟨h2,e4,s2⟩) ?_)
 rintro h s
 have s:=s.ae [1,0]
 refine zk 3 rfl (zl rfl (s.cP (k:=0) rfl bO a_) (zc rfl (mT (a:=16) (z:=2) (n:=512) hT (s.ae [1]) (by decide) (by decide) (by omega) (by omega)) ?_))
 rintro r h ⟨rfl,s⟩
 have s:=s.ae [1,0]
 refine zk 3 rfl (zf rfl (fg _ _) (zl rfl (s.ld (k:=0) rfl bK rfl) (zk 3 rfl (WP.ret ⟨aa,_,rfl,?_⟩))))
 refine ⟨_,_,rfl,dF.new (k:=kd),?_⟩
 rw [hn]
 exact s.drop
theorem Fz (I:W told){lk ex:Nat}(s:Sat h (X::S))(hX:cI X (cL v b))(J:dF b kd link extra cs)(yX:lk<4294967296)(hex:ex<4294967296):
  Call ⟨Tryz.prog,told⟩ 47 [v,.int .i64 (lk:Int),.int .i64 (ex:Int)] h fun r h'=>∃u b',r=.aX [u,.int .i64 0]∧dF b' kd lk ex cs∧Sat h' (aP u b'::X::S):=by
 have hl:=J.len
 have hle:∀n,(le 4 n).length=4:=fun n=>dy 4 n
 have l1:(aT b 18 (le 4 lk)).length=512:=by rw [ct (by rw [hle]; omega),hl]
 refine Call.of_wp (I.free _ rfl) Tryz.func47 rfl rfl (zK 8 rfl (zc rfl (qN I s hX (by omega)) ?_))
 rintro r h' (⟨hg,u,rfl,s⟩ | ⟨hg,rfl,s⟩)
 ·obtain ⟨jR,_,cap,_,rfl,_⟩:=s.eo (by omega)
  refine zk 3 rfl ?_
  refine az.cr s rfl rfl rfl (ck ik) (fun p8 h s => ?_)
  dsimp only [V.cells,List.length_cons,List.length_nil,Nat.reduceAdd] at s
  refine zS rfl (s.gQ (j:=0) rfl a_ rfl rfl) (fun h s => ?_)
  dsimp only [setA] at s
  refine zk 3 rfl (WP.block (zK 3 rfl (zh rfl (ag rfl rfl aL) (rfl) (zk 6 rfl (zh rfl (ag rfl rfl bf) (by simp) ?_)))))
  refine zk 2 rfl (zh rfl (ag rfl rfl fY) (by simp; omega) ?_)
  refine zk 3 rfl (zh rfl (ag rfl rfl bf) (by simp) ?_)
  refine zk 3 rfl (zh rfl (ag rfl rfl fY) (by simp; omega) ?_)
  refine zk 2 rfl (zv (zj rfl (WP.skip (zg rfl (zl rfl (by exact s.cP (k:=0) rfl bO a_) ?_)))))
  refine zm rfl (zo rfl (cH rfl (by exact jQ bN cZ (fX (by omega) (by omega)))) ?_)
  refine zc rfl (mT (a:=18) (z:=4) (n:=lk) I (s.ae [1]) (by decide) (by decide) (by omega) (by omega)) ?_
  rintro r h' ⟨rfl,s⟩
  have s:=s.ae [1,0]
  refine zk 3 rfl (zl rfl (s.cP (k:=0) rfl bO a_) (zm rfl (zo rfl (cH rfl (by exact jQ bN cZ (fX (by omega) (by omega)))) ?_)))
  refine zc rfl (mT (a:=22) (z:=4) (n:=ex) I (s.ae [1]) (by decide) (by decide) (by omega) (by omega)) ?_
  rintro r h' ⟨rfl,s⟩
  have s:=s.ae [1,0]
  exact zk 3 rfl (zf rfl (fg _ _) (zl rfl (s.ld (k:=0) rfl bK rfl) (zk 3 rfl (WP.ret ⟨aa,_,rfl,_,_,rfl,J.set yX hex,s.drop⟩))))
 ·rw [J.good] at hg; cases hg
theorem u9 (J:W told)(s:Sat h (X::S))(I:cI X (cL v l))(hl:l.length<1073741824):
  Call ⟨Tryz.prog,told⟩ 160 [v] h fun r h'=>Sat h' (aP r l::X::S):=by
 have hv:=s.aH (k:=0) rfl I
 refine Call.of_wp (J.free _ rfl) Tryz.func160 rfl rfl (zK 7 rfl (zo rfl (aV rfl rfl rfl (aS aI (s.aH (k:=0) rfl I))) (az.any rfl rfl rfl (OpR.qd rfl s rfl rfl rfl rfl (by omega)) ?_)))
 intro u h s
 refine zm rfl (az.any rfl rfl rfl (OpR.ov rfl s I rfl rfl rfl rfl (by simp; omega)) ?_)
 intro u2 h s
 rw [c5] at s
 exact zk 2 rfl (WP.ret ⟨aa,_,rfl,s⟩)
theorem xp (I:W told){i:Nat}(s:Sat h (X::S))(hX:cI X (cL v b))(J:dF b kd link extra cs)(hc:cs[i]?=some c):
  Call ⟨Tryz.prog,told⟩ 111 [v,.int .i64 (i:Int)] h fun r h'=>∃u,r=.aX [u,.int .i64 0]∧Sat h' (aP u c::X::S):=by
 have hl:=J.len
 have hv:=s.aH (k:=0) rfl hX
 have hi:=(List.getElem?_eq_some_iff.1 hc).1
 have fF:=J.fits
 have wL:=kR (cs:=cs) (i:=i+1)
 have Jw:=kQ hc
 obtain ⟨pi,po,pc,rfl⟩:=gD hv (by omega)
 refine Call.of_wp (I.free _ rfl) Tryz.func111 rfl rfl (zK 8 rfl (zc rfl (qj I s hX (by omega)) ?_))
 rintro r h' ⟨s,(⟨hg,rfl⟩ | ⟨hg,rfl⟩)⟩
 ·refine az.op rfl rfl rfl (b_ rfl) ?_
  refine zk 2 rfl ?_
  refine az.cr s rfl rfl rfl (ck ik) (fun p6 h s => ?_)
  dsimp only [V.cells,List.length_cons,List.length_nil,Nat.reduceAdd] at s
  refine zS rfl (s.gQ (j:=0) rfl a_ rfl rfl) (fun h s => ?_)
  dsimp only [setA] at s
  refine zk 3 rfl (WP.block (zK 3 rfl (zh rfl (ag rfl rfl aL) (rfl) (zk 6 rfl (zh rfl (ag rfl rfl bf) (by simp) ?_)))))
  refine zk 2 rfl (zl rfl (s.cP (k:=0) rfl bO a_) (zc rfl (jk I s (k:=1) rfl hX hl) ?_))
  rintro r h' ⟨rfl,s⟩
  rw [J.gq]
  refine zh rfl (ag rfl rfl uw) (by simp; omega) ?_
  refine zk 2 rfl (zv (zj rfl (WP.skip (zg rfl (zl rfl (by exact s.cP (k:=0) rfl bO a_) ?_)))))
  refine zm rfl (zc rfl (AO (i:=i) I s (k:=1) rfl hX J hc) ?_)
  rintro r h' ⟨f,rfl,hr,s⟩
  refine zc rfl (u9 I (s.ae [1]) hr (by omega)) ?_
  intro u h s
  exact zk 3 rfl (WP.ret ⟨aa,_,rfl,_,rfl,s.del 2⟩)
 ·rw [J.good] at hg; cases hg
end
theorem Lu : ∃i,Tryz.prog.info? 28=some i∧i.size=1∧i.bytes=24 :=
 ⟨_,(show Tryz.prog.info? 28=some ((Tryz.prog.info? 28).getD default) by kernel_rfl),by kernel_rfl,by kernel_rfl⟩
section
variable {told:cK} {h:H} {S:List aq} {X Y:aq} {k:Nat} {v x:V} {b l c c':List Nat} {kd link extra:Nat} {cs:List (List Nat)}
theorem FA (I:W told)(s:Sat h (X::Y::S))(hX:cI X (cL v b))(hY:cI Y (cL x c))(hp:dF b kd link extra cs)(hf:26+4*(cs.length+1)+(tot cs+c.length)≤512):
  Call ⟨Tryz.prog,told⟩ 48 [v,.int .i64 (cs.length:Int),x] h fun r h'=>∃u b',r=.aX [u,.int .i64 0]∧dF b' kd link extra (cs++[c])∧Sat h' (aP u b'::X::Y::S):=by
 have hl:=hp.len
 have uK:=hp.low
 have hle:∀n,(le 2 n).length=2:=fun n=>dy 2 n
 generalize hn:cs.length=n at hf
 have J:=hp.gq
 have qw:∃lo,lo+(tot cs+c.length)=512:=⟨512-(tot cs+c.length),by omega⟩
 obtain ⟨lo,qw⟩:=qw
 have l1:(aT b 14 (le 2 (n+1))).length=512:=by rw [ct (by rw [hle]; omega),hl]
 have je:fZ (aT b 14 (le 2 (n+1)))=lo+c.length:=by
  have:fZ (aT b 14 (le 2 (n+1)))=fZ b:=AM (by rw [hle]; omega) (by rw [hle]; omega)
  rw [this]; omega
 refine Call.of_wp (I.free _ rfl) Tryz.func48 rfl rfl (zK 8 rfl (zc rfl (qN I s hX (by omega)) ?_))
 rintro r h' (⟨hg,u,rfl,s⟩ | ⟨hg,rfl,s⟩)
 ·obtain ⟨jR,_,cap,_,rfl,_⟩:=s.eo (by omega)
  refine zk 3 rfl ?_
  refine az.cr s rfl rfl rfl (ck ik) (fun p8 h s => ?_)
  dsimp only [V.cells,List.length_cons,List.length_nil,Nat.reduceAdd] at s
  refine zS rfl (s.gQ (j:=0) rfl a_ rfl rfl) (fun h s => ?_)
  dsimp only [setA] at s
  refine zk 3 rfl (WP.block (zK 3 rfl (zh rfl (ag rfl rfl aL) (rfl) (zk 6 rfl (zh rfl (ag rfl rfl bf) (by simp) ?_)))))
  refine zk 2 rfl (zl rfl (s.cP (k:=0) rfl bO a_) (zc rfl (jk I s (k:=1) rfl (aR _ _) hl) ?_))
  rintro r h' ⟨rfl,s⟩
  rw [J,hn]
  refine zh rfl (ag rfl rfl fY) (by simp) ?_
  refine zk 6 rfl (zl rfl (s.cP (k:=0) rfl bO a_) (zc rfl (Ls I (s.ae [1]) (aR _ _) hp) ?_))
  rintro r h' ⟨rfl,s⟩
  have s:=s.ae [1,0]
  dsimp only [aZ,bringA,getA] at s
  rw [hn]
  refine zm rfl (zo rfl (aV rfl rfl rfl (aS aI (s.aH (k:=3) rfl hY))) (zb rfl (by exact bB (aC (by omega) (by omega))) ?_))
  refine zh rfl (ag rfl rfl bf) (by simp; omega) ?_
  refine za rfl (zv (zj rfl (WP.skip (zw (zg rfl (zl rfl (by exact s.cP (k:=0) rfl bO a_) ?_))))))
  refine zc rfl (NU I s (k:=1) rfl (aR _ _) hp) ?_
  rintro r h' ⟨rfl,s⟩
  rw [hn]
  refine zm rfl (zo rfl (aV rfl rfl rfl (aS aI (s.aH (k:=3) rfl hY))) (zb rfl (by exact bB (aC (by omega) (by omega))) ?_))
  refine zh rfl (ag rfl rfl bf) (by simp; omega) ?_
  refine zv (zj rfl (WP.skip (zg rfl (zl rfl (by exact s.cP (k:=0) rfl bO a_) ?_))))
  refine zc rfl (jk I s (k:=1) rfl (aR _ _) hl) ?_
  rintro r h' ⟨rfl,s⟩
  rw [J,hn]
  refine zk 3 rfl ?_
  have q1:((26:Int)+4*((n:Int)+1)).toNat=30+4*n:=by omega
  have q2:((26:Int)+4*(n:Int)).toNat=26+4*n:=by omega
  have s0:=s
  refine WP.drawn [ak,ak,ak,ak,ak,ak,ak,ak,ak,ak,ak,ak,ak,ak,ak,ak,ak,ak,ak,ak,ak] rfl (by kernel_rfl) (by kernel_rfl) ?_
  refine zF rfl (fg _ _) (zL rfl (s.ld (k:=0) rfl bK rfl) (zM rfl (zO rfl (ag rfl rfl (by exact bB (aC (by omega) (by omega)))) ?_)))
  refine zO rfl (ag rfl rfl (by exact jW (aC (by omega) (by omega)))) ?_
  refine zO rfl (ag rfl rfl (by exact bB (aC (by omega) (by omega)))) ?_
  refine zM rfl (zO rfl (ag rfl rfl (by exact bB (aC (by omega) (by omega)))) ?_)
  refine zO rfl (ag rfl rfl (by exact jW (aC (by omega) (by omega)))) ?_
  refine zO rfl (ag rfl rfl (by exact bB (aC (by omega) (by omega)))) ?_
  refine zO rfl (ff (p:=some (.int .i64 (26+4*((n:Int)+1)))) (q:=some (.int .i64 (26+4*((n:Int)+1)))) (m:=none) (p':=some (30+4*n)) (q':=some (30+4*n)) (m':=none) rfl rfl rfl rfl (by rw [eV (by omega),q1]) (by rw [eV (by omega),q1]) rfl (iq (s.buf (k:=1) rfl).view (aD _) (by omega)).1) ?_
  refine zF rfl (fg _ _) (zL rfl (s.ld (k:=0) rfl bK rfl) (zM rfl (zO rfl (ag rfl rfl (by exact jW (aC (by omega) (by omega)))) ?_)))
  refine zO rfl (ag rfl rfl (by exact bB (aC (by omega) (by omega)))) ?_
  refine zM rfl (zO rfl (ag rfl rfl (by exact jW (aC (by omega) (by omega)))) ?_)
  refine zO rfl (ag rfl rfl (by exact bB (aC (by omega) (by omega)))) ?_
  refine zO rfl (ff (p:=some (.int .i64 (26+4*(n:Int)))) (q:=some (.int .i64 (26+4*(n:Int)))) (m:=none) (p':=some (26+4*n)) (q':=some (26+4*n)) (m':=none) rfl rfl rfl rfl (by rw [eV (by omega),q2]) (by rw [eV (by omega),q2]) rfl (iq (s.buf (k:=1) rfl).view (aD _) (by omega)).1) ?_
  refine aB.any rfl rfl rfl rfl (OpR.Ry rfl (s.ae [1]) rfl rfl rfl rfl (by omega) (by omega) (by omega)) ?_
  intro r h s
  have s:=s.ae [1,0]
  refine aB.nil ⟨⟨aa,aa,aa,aa,aa,aa,aa,aa,aa,aa,aa,aa,aa,aa,aa,aa,aa,aa,aa,aa,aa,aa⟩,?_⟩
  refine zg rfl (zl rfl (s.cP (k:=0) rfl bO a_) (zm rfl (zb rfl (by exact bB (aC (by omega) (by omega))) ?_)))
  refine zo rfl (cH rfl (by exact jQ bN cZ (fX (by omega) (by omega)))) ?_
  have en:(n:Int)+1=((n+1:Nat):Int):=by omega
  rw [en]
  refine zc rfl (mT (a:=14) (z:=2) (n:=n+1) I (s.ae [1]) (by decide) (by decide) (by omega) (by omega)) ?_
  rintro r h ⟨rfl,s⟩
  have s:=s.ae [1,0]
  refine zk 3 rfl (zl rfl (s.cP (k:=0) rfl bO a_) (zk 2 rfl (zc rfl (Lt (i:=n) (lo:=lo) I (s.ae [1,2]) hY l1 (by omega) je (by omega)) ?_)))
  rintro r h ⟨rfl,s⟩
  have s:=s.ae [2,0,1,0]
  refine zk 3 rfl (zf rfl (fg _ _) (zl rfl (s.ld (k:=0) rfl bK rfl) (zk 3 rfl (WP.ret ⟨aa,_,rfl,?_⟩))))
  subst hn
  exact ⟨_,_,rfl,hp.ins hf qw,s.drop⟩
 ·rw [hp.good] at hg; cases hg
theorem FB (hT:W told){i:Nat}(s:Sat h (X::Y::S))(hX:cI X (cL v b))(hY:cI Y (cL x c'))(J:dF b kd link extra cs)(hc:cs[i]?=some c)(Vx:c'.length=c.length):
  Call ⟨Tryz.prog,told⟩ 110 [v,.int .i64 (i:Int),x] h fun r h'=>∃u b',r=.aX [u,.int .i64 0]∧dF b' kd link extra (cs.set i c')∧Sat h' (aP u b'::X::Y::S):=by
 have hl:=J.len
 have uK:=J.low
 have fF:=J.fits
 have hi:=(List.getElem?_eq_some_iff.1 hc).1
 have wL:=kR (cs:=cs) (i:=i+1)
 have Jw:=kQ hc
 have I:=J.rep hc Vx
 obtain ⟨s1,s2,s3⟩:=J.slot i c hc
 generalize hf:cD b i=f at s1 s3 I
 have l1:(aT b f c').length=512:=by rw [ct (by omega),hl]
 refine Call.of_wp (hT.free _ rfl) Tryz.func110 rfl rfl (zK 8 rfl (zc rfl (qN hT s hX (by omega)) ?_))
 rintro r h' (⟨hg,u,rfl,s⟩ | ⟨hg,rfl,s⟩)
 ·obtain ⟨jR,_,cap,_,rfl,_⟩:=s.eo (by omega)
  refine zk 3 rfl ?_
  refine az.cr s rfl rfl rfl (ck ik) (fun p8 h s => ?_)
  dsimp only [V.cells,List.length_cons,List.length_nil,Nat.reduceAdd] at s
  refine zS rfl (s.gQ (j:=0) rfl a_ rfl rfl) (fun h s => ?_)
  dsimp only [setA] at s
  refine zk 3 rfl (WP.block (zK 3 rfl (zh rfl (ag rfl rfl aL) (rfl) (zk 6 rfl (zh rfl (ag rfl rfl bf) (by simp) ?_)))))
  refine zk 2 rfl (zl rfl (s.cP (k:=0) rfl bO a_) (zc rfl (jk hT s (k:=1) rfl (aR _ _) hl) ?_))
  rintro r h' ⟨rfl,s⟩
  rw [J.gq]
  refine zh rfl (ag rfl rfl uw) (by simp; omega) ?_
  refine zk 2 rfl (zv (zj rfl (WP.skip (zg rfl (zl rfl (by exact s.cP (k:=0) rfl bO a_) ?_)))))
  refine zm rfl (zc rfl (vW (i:=i) hT s (k:=1) rfl (aR _ _) hl (by omega)) ?_)
  rintro r h' ⟨rfl,s⟩
  rw [hf,s2]
  refine zk 10 rfl (zo rfl (aV rfl rfl rfl (aS aI (s.aH (k:=3) rfl hY))) (zm rfl (zt rfl (ag rfl rfl wY) (by simp; omega) ?_)))
  refine zk 4 rfl (zf rfl (fg _ _) (zl rfl (s.ld (k:=0) rfl bK rfl) (zm rfl ?_)))
  have kr:=jf (s.aH (k:=1) rfl (aR _ _)) (a:=f) (by omega)
  refine zo rfl (ff (p:=some (.int .i64 (f:Int))) (q:=none) (m:=none) (p':=some f) (q':=none) (m':=none) rfl rfl rfl rfl (by rw [eV (by omega)]; rfl) rfl rfl kr.1) ?_
  refine zm rfl (az.any rfl rfl rfl (OpR.MB rfl (s.ae [1,2]) hY rfl rfl rfl rfl (by omega) (aD _) (by omega)) ?_)
  intro r h s
  rw [eD (by omega)] at s
  have s:=s.ae [2,0,1,0]
  refine zk 3 rfl (zl rfl (s.cP (k:=0) rfl bO a_) (zk 3 rfl (zo rfl (aV rfl rfl rfl (aS aI (s.aH (k:=3) rfl hY))) (zc rfl (yW (i:=i) (f:=f) (z:=c'.length) hT (s.ae [1]) l1 (by omega) (by omega) (by omega)) ?_))))
  rintro r h ⟨rfl,s⟩
  have s:=s.ae [1,0]
  exact zk 3 rfl (zf rfl (fg _ _) (zl rfl (s.ld (k:=0) rfl bK rfl) (zk 3 rfl (WP.ret ⟨aa,_,rfl,_,_,rfl,I,s.drop⟩))))
 ·rw [J.good] at hg; cases hg
theorem G7 (hT:W told){c0 c1:List Nat}(s:Sat h (X::S))(hX:cI X (cL v b))(hp:dF b kd link extra [c0,c1]):
  Call ⟨Tryz.prog,told⟩ 140 [v] h fun r h'=>∃w u0 u1,r=.aX [w,.int .i64 0]∧Sat h' (.arr 1 w [u0,u1]::aP u0 c0::aP u1 c1::X::S):=by
 have hl:=hp.len
 have hv:=s.aH (k:=0) rfl hX
 have fF:=hp.fits
 simp only [tot,aQ,bF] at fF
 obtain ⟨pi,po,pc,rfl⟩:=gD hv (by omega)
 obtain ⟨i1,jS,ie,uJ⟩:=Lu
 refine Call.of_wp (hT.free _ rfl) Tryz.func140 rfl rfl (zK 8 rfl (zc rfl (qj hT s hX (by omega)) ?_))
 rintro r h' ⟨s,(⟨hg,rfl⟩ | ⟨hg,rfl⟩)⟩
 ·refine az.op rfl rfl rfl (b_ rfl) ?_
  refine zk 2 rfl ?_
  refine az.cr s rfl rfl rfl (ck ik) (fun p4 h s => ?_)
  dsimp only [V.cells,List.length_cons,List.length_nil,Nat.reduceAdd] at s
  refine zS rfl (s.gQ (j:=0) rfl a_ rfl rfl) (fun h s => ?_)
  dsimp only [setA] at s
  refine zk 6 rfl (zh rfl (ag rfl rfl aL) (rfl) (zk 5 rfl (zl rfl (s.cP (k:=0) rfl bO a_) (zc rfl (jk hT s (k:=1) rfl hX hl) ?_))))
  rintro r h' ⟨rfl,s⟩
  rw [show iQ b=2 from hp.gq]
  obtain ⟨wv,h1,e3,s1⟩:=uA (P:=Tryz.prog) s fO jS nA ie (by omega) rfl (by decide) (by decide) (n:=0) (c:=2) (by decide) (by decide)
  refine az.any rfl rfl rfl (OpR.of (R:=fun v h'=>v=wv∧h'=h1) (sQ rfl rfl e3) ⟨rfl,rfl⟩) ?_
  rintro w0 h ⟨rfl,rfl⟩
  have s:Sat h (.arr 1 w0 []::_):=s1
  have s:=s.ae [1,1,0]
  dsimp only [bringA,getA,aZ] at s
  refine zk 5 rfl (zl rfl (s.cP (k:=0) rfl bO a_) (zc rfl (jk hT s (k:=1) rfl hX hl) ?_))
  rintro r h' ⟨rfl,s⟩
  rw [show iQ b=2 from hp.gq]
  refine zk 2 rfl (WP.block (WP.loop (zg rfl (zt rfl (ag rfl rfl bf) (by decide) ?_))))
  refine zk 5 rfl (WP.block (zK 7 rfl (zl rfl (s.cP (k:=0) rfl bO a_) (zm rfl (zc rfl (AO (i:=0) (c:=c0) hT s (k:=1) rfl hX hp rfl) ?_)))))
  rintro r h' ⟨f,rfl,hr,s⟩
  refine zc rfl (u9 hT (s.ae [1]) hr (by omega)) ?_
  intro u0 h s
  have I:=(s.buf (k:=0) rfl).view.cells
  have s:=s.ae [3]
  dsimp only [aZ,bringA,getA] at s
  obtain ⟨iv,h1,yR,s1⟩:=kg (P:=Tryz.prog) (k:=1) (x:=u0) s fO nA jX rfl (by decide) (by decide) (by rw [I.1]; rfl) (by rw [I.1]; simp only [iB,jB,I.2]; rfl)
  rw [I.1] at s1
  refine az.any rfl rfl rfl (OpR.of (R:=fun v h'=>v=iv∧h'=h1) (lR rfl yR) ⟨rfl,rfl⟩) ?_
  rintro v' h' ⟨rfl,rfl⟩
  obtain ⟨av,h2,sq,s2⟩:=gI (s1.ae [1,0]) fO jS nA ie (by omega) rfl (by decide) (by simp)
  dsimp only [List.nil_append,aZ,bringA] at s2
  refine az.any rfl rfl rfl (OpR.of (R:=fun v h'=>v=av∧h'=h2) (mL rfl rfl sq) ⟨rfl,rfl⟩) ?_
  rintro v' h ⟨rfl,rfl⟩
  have s:=(s2.del 1).ae [3,2,0,0]
  dsimp only [aZ,bringA,getA] at s
  refine za rfl (zv (zr rfl (zb rfl (by exact bB (aC (by omega) (by omega))) ?_)))
  refine zm rfl (zv (WP.loop (zg rfl (zt rfl (ag rfl rfl bf) (by decide) ?_))))
  refine zk 5 rfl (WP.block (zK 7 rfl (zl rfl (s.cP (k:=0) rfl bO a_) (zm rfl (zc rfl (AO (i:=1) (c:=c1) hT s (k:=1) rfl hX hp rfl) ?_)))))
  rintro r h' ⟨f1,rfl,MA,s⟩
  refine zc rfl (u9 hT (s.ae [1]) MA (by omega)) ?_
  intro u1 h s
  have J:=(s.buf (k:=0) rfl).view.cells
  have s:=s.ae [3]
  dsimp only [aZ,bringA,getA] at s
  obtain ⟨Vy,h1,yR,s1⟩:=kg (P:=Tryz.prog) (k:=1) (x:=u1) s fO nA jX rfl (by decide) (by decide) (by rw [J.1]; rfl) (by rw [J.1]; simp only [iB,jB,J.2]; rfl)
  rw [J.1] at s1
  refine az.any rfl rfl rfl (OpR.of (R:=fun v h'=>v=Vy∧h'=h1) (lR rfl yR) ⟨rfl,rfl⟩) ?_
  rintro v' h' ⟨rfl,rfl⟩
  obtain ⟨Vz,h2,sq,s2⟩:=gI (s1.ae [1,0]) fO jS nA ie (by omega) rfl (by decide) (by simp)
  dsimp only [List.cons_append,List.nil_append,aZ,bringA] at s2
  refine az.any rfl rfl rfl (OpR.of (R:=fun v h'=>v=Vz∧h'=h2) (mL rfl rfl sq) ⟨rfl,rfl⟩) ?_
  rintro v' h ⟨rfl,rfl⟩
  have s:=(s2.del 1).ae [3,2,0,1,0]
  dsimp only [aZ,bringA,getA] at s
  refine za rfl (zv (zr rfl (zb rfl (by exact bB (aC (by omega) (by omega))) ?_)))
  refine zm rfl (zv (WP.loop (zg rfl (zh rfl (ag rfl rfl bf) (by decide) ?_))))
  exact zk 3 rfl (WP.exit (zK 6 rfl (WP.ret ⟨aa,_,rfl,_,_,_,rfl,(s.ae [2,2,2,1]).del 4⟩)))
 ·rw [hp.good] at hg; cases hg
end
def Sm (N:Nat)(ε ε':aF): Prop:=(∀m,pgA ε' m=pgA ε m)∧∀P:VP,oz N P→vw P ε→vw P ε'
theorem Sm.refl (N:Nat)(ε:aF): Sm N ε ε:=⟨fun _=>rfl,fun _ _ h=>h⟩
theorem Sm.trans {N:Nat}{a b c:aF}(h:Sm N a b)(g:Sm N b c): Sm N a c:=⟨fun m=>(g.1 m).trans (h.1 m),fun P I J=>g.2 P I (h.2 P I J)⟩
structure qx (told : cK) (N B : Nat) (rv : V) (A : aF → aq) (pg : aF → Int → List Nat) : Prop where
 iface : ∃ ty u f, rv = .iface ty u ∧ methV Tryz.prog ty "Read" = some f ∧ ∀ {h : H} {S : List aq} {ε : aF} {n : Int}, EI N B ε → 0 ≤ n → n < N → Sat h (A ε :: S) →
  Call ⟨Tryz.prog, told⟩ f [u, .int .i64 n] h fun v h' => ∃ w ε', v = .aX [w, .int .i64 0] ∧ EI N B ε' ∧ Sm N ε ε' ∧ Sat h' (aP w (pg ε n) :: A ε' :: S)
 same : ∀ {ε ε' : aF}, Sm N ε ε' → ∀ m, pg ε' m = pg ε m
section
variable {P:Program} {h:H} {S:List aq} {k id off i:Nat} {v c:V} {cs:List V} {t te t':TypeId}
theorem Sat.u_ (s:Sat h S)(hk:getA S k=some (.arr 1 v cs))(hi:cs[i]?=some c)(hu:P.underlying t=some (.slice te))(I:br P te=some 1)(e:indexAddrV P t v (.int .i64 (i:Int))=some (.ptr id off))(ha:b6 P t'=some false): loadV P h t' (.ptr id off)=some c:=by
 obtain ⟨J,off',e1,e2⟩:=jK s hk hi hu I
 rw [e] at e1
 have e3:V.ptr id off=V.ptr J off':=bG e1
 rw [e3]; exact e2 _ ha
theorem FC {E:List (Nat×V)}{s d:TypeId}{x:Operand}{v r:V}{h₁:H}(I:lookO E x=some v)(J:convV P h s d v=none)(h2:convB P h s d v=some (r,h₁)): opE P E h (.convert s d x)=some (r,h₁):=by
 simp only [opE,hU,I,J,h2]
end
def fR : List Nat:=[109,117,110,105,109,101,110,116]
theorem Lv {h:H}: buildSliceV Tryz.prog h 28 8 [(0,.int .u8 109),(1,.int .u8 117),(2,.int .u8 110),(3,.int .u8 105),(4,.int .u8 109),(5,.int .u8 101),(6,.int .u8 110),(7,.int .u8 116)]=some (.sl h.next 0 8 (.exact 8),newRow h (ofBytes fR)):=by
 simp only [buildSliceV,aI,dA,nt,V.cells]
 rfl
theorem yY {P:Program}{h:H}{t:TypeId}{x y:Operand}{a b:Nat}(J:0<b)(hw:a<9223372036854775808): binV P h .quo t x y (.int .i64 (a:Int)) (.int .i64 (b:Int))=some (.int .i64 ((a/b:Nat):Int)):=by
 simp only [binV,ikBeq,af,intV]
 have:intBeq (b:Int) 0=false:=by rw [mQ]; simp; omega
 have I:a/b≤a:=zX a b
 rw [this,ay,Es (by omega),←Int.natCast_ediv]
 generalize a/b=q at I ⊢
 rw [aC (by omega) (by omega)]
section
variable {told:cK} {h:H} {S:List aq} {X Y:aq} {N B n:Nat} {v x y rv:V} {b l c R M:List Nat} {kd link extra:Nat} {cs:List (List Nat)} {A:aF→aq} {pg:aF→Int→List Nat} {ε:aF}
theorem Dg (J:W told)(s:Sat h S): Call ⟨Tryz.prog,told⟩ 74 [] h fun r h'=>Sat h' (.cE r fR::S):=by
 refine Call.of_wp (J.free _ rfl) Tryz.func74 rfl rfl (zK 6 rfl (az.any rfl rfl rfl (OpR.of (R:=fun v h'=>v=.sl h.next 0 8 (.exact 8)∧h'=newRow h (ofBytes fR)) (lR rfl Lv) ⟨rfl,rfl⟩) ?_))
 rintro v I ⟨rfl,rfl⟩
 have s1:Sat (newRow h (ofBytes fR)) (pt h.next (.cells 8 (ofBytes fR) false)::S):=s.new _
 generalize newRow h (ofBytes fR)=I at s1
 generalize h.next=id at s1
 have hg:=s1.row (k:=0) rfl
 have e1:convB Tryz.prog I 28 28 (.sl id 0 8 (.exact 8))=some (.sl id 0 8 (.exact 8),I.put id (some (.cells 8 (ofBytes fR) true))):=by
  simp only [convB,aI,Tryz.underlying5,hg]
  rfl
 have e0:convV Tryz.prog I 28 28 (.sl id 0 8 (.exact 8))=none:=by
  simp only [convV,aI]
 have s2:Sat (I.put id (some (.cells 8 (ofBytes fR) true))) (pt id (.cells 8 (ofBytes fR) true)::S):=s1.put (k:=0) rfl
 have s3:Sat (I.put id (some (.cells 8 (ofBytes fR) true))) (.cE (.sl id 0 8 (.exact 8)) fR::S):=s2.freeze.jH (B:=.cE (.sl id 0 8 (.exact 8)) fR) fun m r hm=>⟨by decide,.inr ⟨id,0,.exact 8,8,_,true,rfl,hm,rfl,by decide,rfl,by decide⟩⟩
 refine az.any rfl rfl rfl (OpR.of (R:=fun v h'=>v=.sl id 0 8 (.exact 8)∧h'=I.put id (some (.cells 8 (ofBytes fR) true))) (FC rfl e0 e1) ⟨rfl,rfl⟩) ?_
 rintro v h2 ⟨rfl,rfl⟩
 exact zk 2 rfl (WP.ret ⟨aa,_,rfl,s3⟩)
theorem Jz (J:W told)(hx:View h x l)(hy:View h y c): Call ⟨Tryz.prog,told⟩ 141 [x,y] h fun r h'=>r=.bool (decide (l=c))∧h'=h:=by
 refine Call.of_wp (J.free _ rfl) Tryz.func141 rfl rfl (zK 7 rfl (zo rfl (cH rfl (Jl hx)) (zm rfl (zo rfl (cH rfl (Jl hy)) ?_))))
 by_cases I:l=c
 ·skip
  exact zt rfl (ag rfl rfl BP) (decide_eq_true I) (zk 2 rfl (WP.ret ⟨aa,_,rfl,by rw [dr I],rfl⟩))
 ·skip
  exact zh rfl (ag rfl rfl BP) (decide_eq_false I) (zk 2 rfl (WP.ret ⟨aa,_,rfl,by rw [dJ I],rfl⟩))
theorem Dh (I:W told)(J:1≤n)(h2:n≤3000): Call ⟨Tryz.prog,told⟩ 54 [.int .i64 (n:Int)] h fun r h'=>r=.int .i64 2∧h'=h:=by
 have e:(n+2999)/3000=1:=by omega
 refine Call.of_wp (I.free _ rfl) Tryz.func54 rfl rfl (zK 7 rfl (zb rfl (by exact bB (aC (by omega) (by omega))) ?_))
 refine zb rfl (by exact jV (aC (by omega) (by omega))) ?_
 refine zo rfl (ag (r:=.int .i64 (((n+2999)/3000:Nat):Int)) rfl rfl (by rw [show (n:Int)+3000-1=((n+2999:Nat):Int) by omega]; exact yY (by decide) (by omega))) ?_
 rw [e]
 refine zb rfl (by exact bB (aC (by omega) (by omega))) ?_
 exact zk 2 rfl (WP.ret ⟨aa,_,rfl,rfl,rfl⟩)
theorem Lw (hT:W told)(hR:qx told N B rv A pg)(gT:EI N B ε)(hN:1≤N)(hp:dF (pg ε 0) 201 n extra [fR,R])(Qa:R.length=64)(s:Sat h (A ε::S)):
  Call ⟨Tryz.prog,told⟩ 91 [rv] h fun v h'=>∃u ε',v=.aX [u,.int .i64 (n:Int),.bool true,.int .i64 0]∧EI N B ε'∧Sm N ε ε'∧Sat h' (aP u R::A ε'::S):=by
 obtain ⟨ty,u,f,rfl,hm,fT⟩:=hR.iface
 refine Call.of_wp (hT.free _ rfl) Tryz.func91 rfl rfl (zK 10 rfl (az.any rfl rfl rfl (OpR.invoke rfl rfl rfl hm rfl (fT gT (by decide) (by omega) s)) ?_))
 rintro v h ⟨u,ε',rfl,qQ,hs,s⟩
 refine zk 10 rfl (zh rfl (ag rfl rfl aL) (rfl) (zk 6 rfl (zc rfl (G7 hT s (aR _ _) hp) ?_)))
 rintro v h ⟨w,u0,u1,rfl,s⟩
 obtain ⟨SC,I,g1,g2⟩:=jK (P:=Tryz.prog) s (k:=0) (i:=0) (c:=u0) rfl rfl fO jX
 obtain ⟨SD,J,g3,g4⟩:=jK (P:=Tryz.prog) s (k:=0) (i:=1) (c:=u1) rfl rfl fO jX
 have Di:=(s.lC (j:=0) rfl).2.2
 have tT:=iV (s.buf (k:=1) rfl).view
 refine zk 8 rfl ?_
 have s0:=s
 refine WP.drawn [ak,ak,ak,ak,ak,ak,ak,ak,some (0,2),some (0,2),some (0,2),ak,ak,ak,ak,ak,ak,ak,ak,ak,ak,ak] rfl (by kernel_rfl) (by kernel_rfl) ?_
 refine zM rfl (aB.tD rfl rfl rfl rfl (ag rfl rfl aL) (by decide) ?_)
 refine zM rfl (zM rfl (zO rfl (aV rfl rfl rfl (s.iL (n:=2) (j:=0) rfl rfl (by decide) fO)) ?_))
 refine aB.tD rfl rfl rfl rfl (ag rfl rfl aL) (by decide) ?_
 refine zO rfl (pH rfl rfl) (zM rfl (zM rfl (zO rfl (dm (r:=.ptr SC I) rfl rfl g1) (zL rfl (s.u_ (k:=0) (i:=0) rfl rfl fO jX g1 bK) (aB.any rfl rfl rfl rfl (OpR.call rfl rfl rfl rfl (Dg hT s)) ?_)))))
 intro mv h s
 have s:=s.ae [1,1,1,1,1,0]
 have s1:=s
 refine aB.any rfl rfl rfl rfl (OpR.call rfl rfl rfl rfl (Jz hT (s.buf (k:=1) rfl).view (s.aH (k:=5) rfl (dZ _ _)))) ?_
 rintro r h' ⟨rfl,rfl⟩
 rw [show decide (fR=fR)=true from dr rfl]
 refine zO rfl (eY rfl rfl) (zO rfl (pH rfl rfl) (zM rfl (zM rfl (zO rfl (dm (r:=.ptr SD J) rfl rfl g3) (zL rfl (s.u_ (k:=0) (i:=1) rfl rfl fO jX g3 bK) (zO rfl (aV rfl rfl rfl (aS aI (s.aH (k:=2) rfl (aR _ _)))) ?_))))))
 rw [Qa]
 refine aB.tD rfl rfl rfl rfl (ag rfl rfl aL) (by decide) ?_
 refine zO rfl (pH rfl rfl) ?_
 refine aB.nil ⟨⟨aa,aa,aa,aa,aa,aa,aa,aa,fun _ _=>.inr ⟨rfl,⟨_,b_ rfl⟩,Di⟩,fun _ _=>.inr ⟨rfl,⟨_,dm (r:=.ptr SC I) rfl rfl g1⟩,bT _ rfl⟩,fo (.inr ⟨rfl,⟨_,aO rfl (s0.u_ (k:=0) (i:=0) rfl rfl fO jX g1 bK)⟩,tT⟩) (.inr ⟨rfl,⟨_,aO rfl (s1.u_ (k:=0) (i:=0) rfl rfl fO jX g1 bK)⟩,tT⟩),aa,aa,aa,aa,aa,aa,aa,aa,aa,aa,aa,aa⟩,?_⟩
 refine zK 5 rfl ?_
 have Ey:=hp.len
 refine zc rfl (vX hT (s.ae [3]) (aR _ _) (by omega)) ?_
 rintro v h ⟨s,(⟨hg,rfl⟩ | ⟨hg,rfl⟩)⟩
 ·rw [show (pg ε 0).getD 12 0=201 from hp.kind,show cF (pg ε 0) 18 4=n from hp.link]
  have s:=s.ae [1,1,1,1,0]
  refine zk 16 rfl (zh rfl (ag rfl rfl aL) (by decide) ?_)
  exact zk 6 rfl (zo rfl (dm (r:=.ptr SD J) rfl rfl g3) (zl rfl (s.u_ (k:=0) (i:=1) rfl rfl fO jX g3 bK) (zk 6 rfl (WP.ret ⟨aa,_,rfl,_,ε',rfl,qQ,hs,(((((s.ae [2,2]).del 5).del 4).del 3).del 2)⟩))))
 ·rw [hp.good] at hg; cases hg
theorem FD (hT:W told)(hR:qx told N B rv A pg)(J:EI N B ε)(hN:1≤N)(hp:dF (pg ε 0) 201 n extra [fR,R])(Qa:R.length=64)(s:Sat h (A ε::S)):
  Call ⟨Tryz.prog,told⟩ 53 [rv] h fun v h'=>∃u ε',v=.aX [u,.int .i64 (n:Int),.int .i64 0]∧EI N B ε'∧Sm N ε ε'∧Sat h' (aP u R::A ε'::S):=by
 refine Call.of_wp (hT.free _ rfl) Tryz.func53 rfl rfl (zK 9 rfl (zc rfl (Lw hT hR J hN hp Qa s) ?_))
 rintro v h ⟨u,ε',rfl,I,hs,s⟩
 refine zk 9 rfl (zv (zw (WP.block (zg rfl (zm rfl (zh rfl (ag rfl rfl aL) (rfl) (za rfl (zv (zj rfl (zg rfl (zm rfl (zo rfl (eY rfl rfl) (za rfl (zv (zj rfl (WP.skip (zg rfl (zk 5 rfl (zv ?_)))))))))))))))))))
 refine WP.ret ⟨aa,_,rfl,?_⟩
 exact ⟨u,ε',rfl,I,hs,s⟩
theorem xq (hT:W told)(hR:qx told N B rv A pg)(J:EI N B ε)(hN:2≤N)(hp:dF (pg ε 1) kd link extra [M])(hM:M.length=375)(s:Sat h (A ε::S)):
  Call ⟨Tryz.prog,told⟩ 55 [rv,.int .i64 0] h fun v h'=>∃w u ε',v=.aX [w,u,.int .i64 0]∧EI N B ε'∧Sm N ε ε'∧Sat h' (aP u M::aP w (pg ε 1)::A ε'::S):=by
 obtain ⟨ty,u,f,rfl,hm,fT⟩:=hR.iface
 refine Call.of_wp (hT.free _ rfl) Tryz.func55 rfl rfl (zK 11 rfl (zb rfl (by exact bB (aC (by omega) (by omega))) ?_))
 refine az.any rfl rfl rfl (OpR.invoke rfl rfl rfl hm rfl (fT (n:=1) J (by decide) (by omega) s)) ?_
 rintro v h ⟨w,ε',rfl,I,hs,s⟩
 refine zk 9 rfl (zh rfl (ag rfl rfl aL) (rfl) (zk 6 rfl (zc rfl (xp (i:=0) hT s (aR _ _) hp rfl) ?_)))
 rintro v h ⟨u,rfl,s⟩
 refine zk 10 rfl (zh rfl (ag rfl rfl aL) (rfl) (zk 2 rfl (zo rfl (aV rfl rfl rfl (aS aI (s.aH (k:=0) rfl (aR _ _)))) ?_)))
 rw [hM]
 refine zh rfl (ag rfl rfl aL) (by decide) ?_
 exact zk 12 rfl (WP.ret ⟨aa,_,rfl,w,u,ε',rfl,I,hs,s⟩)
end
def bt (M:List Nat)(i:Nat): Bool:=(M.getD (i/8) 0).testBit (i%8)
def yZ (M:List Nat)(i:Nat): List Nat:=M.set (i/8) (Nat.lor (M.getD (i/8) 0) (2^(i%8)))
def JA (M:List Nat)(i:Nat): List Nat:=M.set (i/8) (Nat.land (M.getD (i/8) 0) (255-2^(i%8)))
theorem Dj {M:List Nat}{i j b:Nat}(hi:i<M.length): (M.set i b).getD j 0=if i=j then b else M.getD j 0:=by
 rw [ei,vk]
 by_cases h:i=j
 ·subst h; rw [ax rfl,ax rfl,ax hi]; rfl
 ·rw [ai h,ai h,ei]
theorem MC {M:List Nat}{i j:Nat}(hi:i/8<M.length): bt (yZ M i) j=if j=i then true else bt M j:=by
 unfold bt yZ
 rw [Dj hi]
 by_cases h:i/8=j/8
 ·rw [ax h,show Nat.lor (M.getD (i/8) 0) (2^(i%8))=(M.getD (i/8) 0) ||| (2^(i%8)) from rfl,Nat.testBit_or,zC,h]
  by_cases I:j=i
  ·subst I; simp
  ·rw [ai I,show decide (i%8=j%8)=false from dJ (by omega),Bool.or_false]
 ·rw [ai h,ai (by intro e; exact h (by rw [e]))]
theorem Rz {M:List Nat}{i j:Nat}(hi:i/8<M.length): bt (JA M i) j=if j=i then false else bt M j:=by
 unfold bt JA
 rw [Dj hi]
 by_cases h:i/8=j/8
 ·have e:255-2^(i%8)=2^8-(2^(i%8)+1):=by omega
  have I:2^(i%8)<2^8:=rC (by decide) (by omega)
  rw [ax h,show Nat.land (M.getD (i/8) 0) (255-2^(i%8))=(M.getD (i/8) 0) &&& (255-2^(i%8)) from rfl,Nat.testBit_and,e,Nat.testBit_two_pow_sub_succ I,zC,h]
  by_cases J:j=i
  ·subst J; simp
  ·rw [ai J,show decide (i%8=j%8)=false from dJ (by omega),show decide (j%8<8)=true from dr (by omega)]
   simp
 ·rw [ai h,ai (by intro e; exact h (by rw [e]))]
theorem FE {M:List Nat}{i:Nat}: (yZ M i).length=M.length:=b7
theorem FF {M:List Nat}{i:Nat}: (JA M i).length=M.length:=b7
theorem JB {a k:Nat}(I:a<256)(J:k<8): Nat.lor a (2^k)<256:=Nat.or_lt_two_pow (n:=8) I (rC (by decide) J)
theorem FG {a c:Nat}(I:a<256): Nat.land a c<256:=Nat.lt_of_le_of_lt Nat.and_le_left I
def jm (x:Nat): Nat:=((List.range 8).filter fun i => !x.testBit i).headD 8
theorem FH : ∀x,x<255→jm x<8∧x.testBit (jm x)=false∧∀j,j<jm x→x.testBit j=true:=by
 have:∀x,x<255→(decide (jm x<8)&&(!x.testBit (jm x)&&(List.range (jm x)).all fun j=>x.testBit j))=true:=by decide +kernel
 intro x I
 have h:=this x I
 simp only [aG,ej,rK,oY,List.mem_range] at h
 exact ⟨h.1,h.2.1,h.2.2⟩
theorem TP : ∀x,x<256→(∀j,j<8→x.testBit j=true)→x=255:=by
 have:∀x,x<256→((List.range 8).all fun j=>x.testBit j)=true→x=255:=by decide +kernel
 intro x I h
 exact this x I (List.all_eq_true.2 fun j J=>h j (List.mem_range.1 J))
theorem y5 {M:List Nat}{k j:Nat}(I:j<8): bt M (8*k+j)=(M.getD k 0).testBit j:=by
 unfold bt
 rw [show (8*k+j)/8=k by omega,show (8*k+j)%8=j by omega]
section
variable {P:Program} {h:H} {t:TypeId} {x y:Operand} {a b k:Nat}
theorem Qb (J:k<8): binV P h .shl t x y (.int .u8 1) (.int .i64 (k:Int))=some (.int .u8 ((2^k:Nat):Int)):=by
 have I:2^k<256:=rC (a:=2) (n:=8) (by decide) J
 simp only [binV,shiftV,IntKind.bits,cW]
 rw [show decide ((k:Int)<0)=false by simp,ay,show min k 8=k by omega]
 have e:(1:Int)*2^k=((2^k:Nat):Int):=by rw [Int.one_mul]; push_cast; rfl
 rw [e]
 generalize (2^k:Nat)=q at I ⊢
 rw [yp (by omega) (by omega)]
theorem AP {op:BinOp}{f:Nat→Nat→Nat}(ha:a<256)(hb:b<256)(hf:f a b<256)(he:bitsV op .u8 (a:Int) (b:Int)=some (.int .u8 (IntKind.u8.wrap (f ((a:Int)%(2^(IntKind.u8).bits:Int)).toNat ((b:Int)%(2^(IntKind.u8).bits:Int)).toNat:Nat)))):
  bitsV op .u8 (a:Int) (b:Int)=some (.int .u8 ((f a b:Nat):Int)):=by
 have I:((a:Int)%(2^(IntKind.u8).bits:Int)).toNat=a:=by simp only [IntKind.bits]; omega
 have J:((b:Int)%(2^(IntKind.u8).bits:Int)).toNat=b:=by simp only [IntKind.bits]; omega
 rw [he,I,J,yp (by omega) (by omega)]
theorem RA (I:a<256)(J:k<8): binV P h .or t x y (.int .u8 (a:Int)) (.int .u8 ((2^k:Nat):Int))=some (.int .u8 ((Nat.lor a (2^k):Nat):Int)):=by
 simp only [binV,ikBeq,af,intV]
 exact AP (f:=Nat.lor) I (rC (a:=2) (n:=8) (by decide) J) (JB I J) rfl
theorem JC (I:a<256)(J:b<256): binV P h .andNot t x y (.int .u8 (a:Int)) (.int .u8 (b:Int))=some (.int .u8 ((Nat.land a (255-b):Nat):Int)):=by
 simp only [binV,ikBeq,af,intV]
 exact AP (f:=fun a b=>Nat.land a (255-b)) I J (FG I) rfl
theorem Dl (I:a<256): unV .xor (.int .u8 (a:Int))=some (.int .u8 ((255-a:Nat):Int)):=by
 have:∀a,a<256→Nat.xor 255 a=255-a:=by decide +kernel
 simp only [unV]
 have e:bitsV .xor .u8 ((255:Nat):Int) (a:Int)=some (.int .u8 ((Nat.xor 255 a:Nat):Int)):=AP (f:=Nat.xor) (by decide) I (by rw [this a I]; omega) rfl
 rw [this a I] at e
 exact e
theorem Qc {f:Nat→Nat}{L:List Nat}(hu:P.underlying t=some .string)(I:∀x,x<256→nth L x=some (f x))(J:a<256): indexV P t (.str L) (.int .u8 (a:Int))=some (.int .u8 ((f a:Nat):Int)):=by
 simp only [indexV,hu,cW,I a J]
 rw [show decide ((0:Int)≤(a:Int))=true by simp,af]
end
section
variable {told:cK} {h:H} {S:List aq} {X Y:aq} {N B n:Nat} {v x y rv:V} {b l c R M:List Nat} {kd link extra lF:Nat} {cs:List (List Nat)} {A:aF→aq} {pg:aF→Int→List Nat} {ε:aF}
theorem Dm (I:W told){a:Nat}(J:a<256): Call ⟨Tryz.prog,told⟩ 109 [.int .u8 ((255-a:Nat):Int)] h fun r h'=>r=.int .i64 (jm a:Nat)∧h'=h:=by
 have hle:∀a,a<256→jm a≤8:=by decide +kernel
 have hle:=hle a J
 have he:jm (255-(255-a))=jm a:=by rw [show 255-(255-a)=a by omega]
 refine Call.of_wp (I.free _ rfl) Tryz.func109 rfl rfl (zK 7 rfl (zo rfl (Gi rfl rfl (Qc (f:=fun x=>jm (255-x)) uE (by decide +kernel) (by omega))) ?_))
 rw [he]
 refine zo rfl (cH rfl (by exact jQ Tryz.underlying5 bN (aC (by omega) (by omega)))) ?_
 exact zk 2 rfl (WP.ret ⟨aa,_,rfl,rfl,rfl⟩)
noncomputable def SE : Code:=gr [1,1,1,0,1,0,0,1,1,0,0,1,1,1,1,0,0] ((Tryz.f51.body).getD .skip)
theorem Lx (hT:W told){u:V}{lo:Nat}(hv:View h u M)(hM:M.length=375)(hn:n≤3000)(qw:lo<n)(h0:bt M lo=false)(h1:∀j,j<lo→bt M j=true): ∀(m k:Nat) (E:List (Nat×V)) (Q:Ex→List (Nat×V)→H→Prop),k+m=lo/8 →
  Has E [(5,.int .i64 (n:Int)),(7,.int .i64 0),(39,u),(40,.int .i64 375),(41,.int .i64 (k:Int))] →
  (∀E',look E' 2=some (.int .i64 (lo:Int))→look E' 3=some (.int .i64 0)→Q .ret E' h)→WP ⟨Tryz.prog,told⟩ 65 (.loop SE) E h Q:=by
 intro m
 induction m with
 | zero =>
  intro k E Q hk hE hq
  have J:M[k]?=some (M[k]'(by omega)):=aY _
  have I:M.getD k 0=M[k]'(by omega):=by rw [ei,J]; rfl
  generalize (M[k]'(by omega))=x at J I
  have hx:x<256:=hv.1 x (bh J)
  obtain ⟨id,off,e1,e2⟩:=eB hv J
  have EP:x≠255:=fun e=>by
   have:=y5 (M:=M) (k:=k) (j:=lo%8) (by omega)
   rw [show 8*k+lo%8=lo by omega,h0,I,e] at this
   have q:∀j,j<8→(255:Nat).testBit j=true:=by decide
   rw [q _ (by omega)] at this; cases this
  obtain ⟨w1,w2,w3⟩:=FH x (by omega)
  have hl:8*k+jm x=lo:=by
   have a1:=y5 (M:=M) (k:=k) (j:=jm x) w1
   rw [I,w2] at a1
   rcases gZ (8*k+jm x) lo with q | q
   ·rw [h1 _ q] at a1; cases a1
   ·by_cases q2:lo%8<jm x
    ·have:=w3 _ q2
     have a2:=y5 (M:=M) (k:=k) (j:=lo%8) (by omega)
     rw [show 8*k+lo%8=lo by omega,h0,I,this] at a2; cases a2
    ·omega
  refine WP.loop (WP.has hE (zg rfl (zt rfl (ag rfl rfl bf) (by simp; omega) ?_)))
  refine zk 5 rfl (WP.block (zK 3 rfl (zo rfl (dm (r:=.ptr id off) rfl rfl e1) (zl rfl e2 (zk 6 rfl (zb rfl (by exact jW (aC (by omega) (by omega))) ?_))))))
  refine zm rfl (zb rfl (by exact jW (aC (by omega) (by omega))) ?_)
  refine zb rfl (by exact bB (aC (by omega) (by omega))) ?_
  refine zm rfl (zo rfl (eY rfl (Dl hx)) (zc rfl (Dm hT hx) ?_))
  rintro v h' ⟨rfl,rfl⟩
  refine zo rfl (ag (r:=.int .i64 (lo:Int)) rfl rfl (by rw [←hl,show (((8*k+jm x:Nat):Int))=(3000*0+8*(k:Int))+(jm x:Int) by omega]; exact bB (aC (by omega) (by omega)))) ?_
  refine zk 5 rfl (zt rfl (ag rfl rfl aL) (by simp; omega) ?_)
  refine zk 3 rfl (zt rfl (ag rfl rfl bf) (by simp; omega) ?_)
  exact zk 9 rfl (WP.ret (hq _ rfl rfl))
 | succ m ih =>
  intro k E Q hk hE hq
  have J:M[k]?=some (M[k]'(by omega)):=aY _
  have I:M.getD k 0=M[k]'(by omega):=by rw [ei,J]; rfl
  generalize (M[k]'(by omega))=x at J I
  have hx:x<256:=hv.1 x (bh J)
  obtain ⟨id,off,e1,e2⟩:=eB hv J
  have EP:x=255:=TP x hx fun j hj=>by rw [←I,←y5 hj]; exact h1 _ (by omega)
  have JD:∀a,a<256→jm a≤8:=by decide +kernel
  have JD:=JD x hx
  refine WP.loop (WP.has hE (zg rfl (zt rfl (ag rfl rfl bf) (by simp; omega) ?_)))
  refine zk 5 rfl (WP.block (zK 3 rfl (zo rfl (dm (r:=.ptr id off) rfl rfl e1) (zl rfl e2 (zk 6 rfl (zb rfl (by exact jW (aC (by omega) (by omega))) ?_))))))
  refine zm rfl (zb rfl (by exact jW (aC (by omega) (by omega))) ?_)
  refine zb rfl (by exact bB (aC (by omega) (by omega))) ?_
  refine zm rfl (zo rfl (eY rfl (Dl hx)) (zc rfl (Dm hT hx) ?_))
  rintro v h' ⟨rfl,rfl⟩
  refine zb rfl (by exact bB (aC (by omega) (by omega))) ?_
  refine zk 5 rfl (zh rfl (ag rfl rfl aL) (by simp; omega) ?_)
  refine zk 5 rfl (zv (zj rfl (WP.skip (zr rfl (zb rfl (by exact bB (aC (by omega) (by omega))) ?_)))))
  refine zm rfl (zv ?_)
  exact ih (k+1) _ Q (by omega) ⟨rfl,rfl,rfl,rfl,rfl,aa⟩ hq
theorem JE (hT:W told){u:V}(hv:View h u M)(hM:M.length=375)(hn:n≤3000)(h1:∀j,j<n→bt M j=true)(h0:∀j,n≤j→bt M j=false): ∀(m k:Nat) (E:List (Nat×V)) (Q:Ex→List (Nat×V)→H→Prop),k+m=375 →
  Has E [(5,.int .i64 (n:Int)),(7,.int .i64 0),(25,.int .i64 1),(26,.int .i64 0),(39,u),(40,.int .i64 375),(41,.int .i64 (k:Int))] →
  (∀E',Has E' [(25,.int .i64 1),(26,.int .i64 0)]→Q (.exit 2) E' h)→WP ⟨Tryz.prog,told⟩ 65 (.loop SE) E h Q:=by
 intro m
 induction m with
 | zero =>
  intro k E Q hk I hq
  refine WP.loop (WP.has I (zg rfl (zh rfl (ag rfl rfl bf) (by simp; omega) ?_)))
  exact zk 3 rfl (WP.exit (hq _ ⟨rfl,rfl,aa⟩))
 | succ m ih =>
  intro k E Q hk I hq
  have hb:M[k]?=some (M[k]'(by omega)):=aY _
  have J:M.getD k 0=M[k]'(by omega):=by rw [ei,hb]; rfl
  generalize (M[k]'(by omega))=x at hb J
  have hx:x<256:=hv.1 x (bh hb)
  obtain ⟨id,off,e1,e2⟩:=eB hv hb
  have JD:∀a,a<256→jm a≤8:=by decide +kernel
  have JD:=JD x hx
  have next:=fun E I=>ih (k+1) E Q (by omega) I hq
  refine WP.loop (WP.has I (zg rfl (zt rfl (ag rfl rfl bf) (by simp; omega) ?_)))
  refine zk 5 rfl (WP.block (zK 3 rfl (zo rfl (dm (r:=.ptr id off) rfl rfl e1) (zl rfl e2 (zk 6 rfl (zb rfl (by exact jW (aC (by omega) (by omega))) ?_))))))
  refine zm rfl (zb rfl (by exact jW (aC (by omega) (by omega))) ?_)
  refine zb rfl (by exact bB (aC (by omega) (by omega))) ?_
  refine zm rfl (zo rfl (eY rfl (Dl hx)) (zc rfl (Dm hT hx) ?_))
  rintro v h' ⟨rfl,rfl⟩
  refine zb rfl (by exact bB (aC (by omega) (by omega))) ?_
  refine zk 5 rfl ?_
  by_cases EP:x=255
  ·skip
   refine zh rfl (ag rfl rfl aL) (by simp; omega) ?_
   refine zk 5 rfl (zv (zj rfl (WP.skip (zr rfl (zb rfl (by exact bB (aC (by omega) (by omega))) ?_)))))
   refine zm rfl (zv ?_)
   exact next _ ⟨rfl,rfl,rfl,rfl,rfl,rfl,rfl,aa⟩
  ·obtain ⟨w1,w2,w3⟩:=FH x (by omega)
   have RX:n≤8*k+jm x:=by
    rcases gZ (8*k+jm x) n with q | q
    ·have:=h1 _ q
     rw [y5 w1,J,w2] at this; cases this
    ·exact q
   refine zt rfl (ag rfl rfl aL) (by simp; omega) ?_
   refine zk 3 rfl (zh rfl (ag rfl rfl bf) (by simp; omega) ?_)
   refine zq rfl (zv (zj rfl (WP.skip (zr rfl (zb rfl (by exact bB (aC (by omega) (by omega))) ?_)))))
   refine zm rfl (zv ?_)
   exact next _ ⟨rfl,rfl,rfl,rfl,rfl,rfl,rfl,aa⟩
end
end Go.Proofs.YtefepnnfphdkpaaGreat.Am
