/- SpaceAll: a part of its proof; conditions: its statement's. -/
import Derived.Test.YtefepnnfphdkpaaGreatA28
namespace Go.Proofs.YtefepnnfphdkpaaGreat.Am
open Go
section
variable {told:cX} {h:H} {S:List au} {X Y:au} {k:Nat} {v x:V} {b l c:List Nat} {kd link extra:Nat} {cs:List (List Nat)}
theorem C3 (hT:W told){kd:Nat}(s:Sat h S)(RZ:kd≤255):
  Call ⟨Tryz.prog,told⟩ 46 [.int .i64 (kd:Int)] h fun r h'=>∃u b,r=.aX [u,.int .i64 0]∧dA b kd 0 0 []∧Sat h' (bg u b::S):=by
 refine Call.of_wp (hT.free _ rfl) Tryz.func46 rfl rfl (zK 9 rfl (zh rfl (ag rfl rfl aO) (by simp) ?_))
 refine zk 2 rfl (zh rfl (ag rfl rfl gv) (by simp; omega) ?_)
 refine zk 6 rfl (az.any rfl rfl rfl (OpR.BC rfl s rfl rfl rfl rfl (by decide)) ?_)
 intro u h s
 have hl:(List.replicate 512 0).length=512:=c8
 have hn:AD kd=aR ((List.replicate 512 0).set 12 kd) 16 (le 2 512):=rfl
 generalize List.replicate 512 0=l at hl hn s
 obtain ⟨qd,_,cap,_,rfl,_⟩:=s.eo (by omega)
 refine zo rfl (cW rfl (by rw [vF]; rfl)) ?_
 refine az.cx s rfl rfl rfl (cz h_) (fun p4 h s => ?_)
 refine zS rfl (s.ik (j:=0) rfl aW rfl rfl) (fun h s => ?_)
 refine zk 3 rfl (zf rfl (fe _ _) (zl rfl (s.ld (k:=0) rfl cy rfl) (zm rfl (zo rfl (cM rfl (by exact jf bG Tryz.underlying5 (yh (by omega) (by omega)))) ?_))))
 have s:=s.ae [1,0]
 obtain ⟨J,I,e3,h2,e4,s2⟩:=lE s (i:=12) (b:=kd) (by omega) (by omega)
 have iN:(l.set 12 kd).length=512:=by rw [bI,hl]
 refine zo rfl (cI (r:=.ptr J I) rfl rfl e3) (zS rfl (⟨h2,e4,s2⟩) ?_)
 rintro h s
 have s:=s.ae [1,0]
 refine zk 3 rfl (zl rfl (s.cG (k:=0) rfl bM aW) (zc rfl (mR (a:=16) (z:=2) (n:=512) hT (s.ae [1]) (by decide) (by decide) (by omega) (by omega)) ?_))
 rintro r h ⟨rfl,s⟩
 have s:=s.ae [1,0]
 refine zk 3 rfl (zf rfl (fe _ _) (zl rfl (s.ld (k:=0) rfl cy rfl) (zk 3 rfl (WP.ret ⟨aa,_,rfl,?_⟩))))
 refine ⟨_,_,rfl,dA.new (k:=kd),?_⟩
 rw [hn]
 exact s.drop
theorem NB (I:W told){lk ex:Nat}(s:Sat h (X::S))(hX:cN X (cQ v b))(J:dA b kd link extra cs)(Bd:lk<4294967296)(hex:ex<4294967296):
  Call ⟨Tryz.prog,told⟩ 47 [v,.int .i64 (lk:Int),.int .i64 (ex:Int)] h fun r h'=>∃u b',r=.aX [u,.int .i64 0]∧dA b' kd lk ex cs∧Sat h' (bg u b'::X::S):=by
 have hl:=J.len
 have hle:∀n,(le 4 n).length=4:=fun n=>dw 4 n
 have l1:(aR b 18 (le 4 lk)).length=512:=by rw [cm (by rw [hle]; omega),hl]
 refine Call.of_wp (I.free _ rfl) Tryz.func47 rfl rfl (zK 8 rfl (zc rfl (qG I s hX (by omega)) ?_))
 rintro r h' (⟨hg,u,rfl,s⟩ | ⟨hg,rfl,s⟩)
 ·obtain ⟨qd,_,cap,_,rfl,_⟩:=s.eo (by omega)
  refine zk 3 rfl ?_
  refine az.cx s rfl rfl rfl (cz h_) (fun p8 h s => ?_)
  dsimp only [V.cells,List.length_cons,List.length_nil,Nat.reduceAdd] at s
  refine zS rfl (s.ik (j:=0) rfl aW rfl rfl) (fun h s => ?_)
  dsimp only [setA] at s
  refine zk 3 rfl (WP.block (zK 3 rfl (zh rfl (ag rfl rfl aF) (rfl) (zk 6 rfl (zh rfl (ag rfl rfl aO) (by simp) ?_)))))
  refine zk 2 rfl (zh rfl (ag rfl rfl gv) (by simp; omega) ?_)
  refine zk 3 rfl (zh rfl (ag rfl rfl aO) (by simp) ?_)
  refine zk 3 rfl (zh rfl (ag rfl rfl gv) (by simp; omega) ?_)
  refine zk 2 rfl (zv (zj rfl (WP.skip (zg rfl (zl rfl (by exact s.cG (k:=0) rfl bM aW) ?_)))))
  refine zm rfl (zo rfl (cM rfl (by exact jf bG cS (fT (by omega) (by omega)))) ?_)
  refine zc rfl (mR (a:=18) (z:=4) (n:=lk) I (s.ae [1]) (by decide) (by decide) (by omega) (by omega)) ?_
  rintro r h' ⟨rfl,s⟩
  have s:=s.ae [1,0]
  refine zk 3 rfl (zl rfl (s.cG (k:=0) rfl bM aW) (zm rfl (zo rfl (cM rfl (by exact jf bG cS (fT (by omega) (by omega)))) ?_)))
  refine zc rfl (mR (a:=22) (z:=4) (n:=ex) I (s.ae [1]) (by decide) (by decide) (by omega) (by omega)) ?_
  rintro r h' ⟨rfl,s⟩
  have s:=s.ae [1,0]
  exact zk 3 rfl (zf rfl (fe _ _) (zl rfl (s.ld (k:=0) rfl cy rfl) (zk 3 rfl (WP.ret ⟨aa,_,rfl,_,_,rfl,J.set Bd hex,s.drop⟩))))
 ·rw [J.good] at hg; cases hg
theorem uX (J:W told)(s:Sat h (X::S))(I:cN X (cQ v l))(hl:l.length<1073741824):
  Call ⟨Tryz.prog,told⟩ 160 [v] h fun r h'=>Sat h' (bg r l::X::S):=by
 have hv:=s.aK (k:=0) rfl I
 refine Call.of_wp (J.free _ rfl) Tryz.func160 rfl rfl (zK 7 rfl (zo rfl (aQ rfl rfl rfl (bw aM (s.aK (k:=0) rfl I))) (az.any rfl rfl rfl (OpR.rZ rfl s rfl rfl rfl rfl (by omega)) ?_)))
 intro u h s
 refine zm rfl (az.any rfl rfl rfl (OpR.qU rfl s I rfl rfl rfl rfl (by simp; omega)) ?_)
 intro u2 h s
 rw [dh] at s
 exact zk 2 rfl (WP.ret ⟨aa,_,rfl,s⟩)
theorem Lb (I:W told){i:Nat}(s:Sat h (X::S))(hX:cN X (cQ v b))(J:dA b kd link extra cs)(hc:cs[i]?=some c):
  Call ⟨Tryz.prog,told⟩ 111 [v,.int .i64 (i:Int)] h fun r h'=>∃u,r=.aX [u,.int .i64 0]∧Sat h' (bg u c::X::S):=by
 have hl:=J.len
 have hv:=s.aK (k:=0) rfl hX
 have hi:=(List.getElem?_eq_some_iff.1 hc).1
 have eU:=J.fits
 have wC:=kH (cs:=cs) (i:=i+1)
 have Je:=kG hc
 obtain ⟨pi,po,pc,rfl⟩:=gw hv (by omega)
 refine Call.of_wp (I.free _ rfl) Tryz.func111 rfl rfl (zK 8 rfl (zc rfl (qg I s hX (by omega)) ?_))
 rintro r h' ⟨s,(⟨hg,rfl⟩ | ⟨hg,rfl⟩)⟩
 ·refine az.op rfl rfl rfl (bT rfl) ?_
  refine zk 2 rfl ?_
  refine az.cx s rfl rfl rfl (cz h_) (fun p6 h s => ?_)
  dsimp only [V.cells,List.length_cons,List.length_nil,Nat.reduceAdd] at s
  refine zS rfl (s.ik (j:=0) rfl aW rfl rfl) (fun h s => ?_)
  dsimp only [setA] at s
  refine zk 3 rfl (WP.block (zK 3 rfl (zh rfl (ag rfl rfl aF) (rfl) (zk 6 rfl (zh rfl (ag rfl rfl aO) (by simp) ?_)))))
  refine zk 2 rfl (zl rfl (s.cG (k:=0) rfl bM aW) (zc rfl (jl I s (k:=1) rfl hX hl) ?_))
  rintro r h' ⟨rfl,s⟩
  rw [J.gi]
  refine zh rfl (ag rfl rfl od) (by simp; omega) ?_
  refine zk 2 rfl (zv (zj rfl (WP.skip (zg rfl (zl rfl (by exact s.cG (k:=0) rfl bM aW) ?_)))))
  refine zm rfl (zc rfl (AE (i:=i) I s (k:=1) rfl hX J hc) ?_)
  rintro r h' ⟨f,rfl,hr,s⟩
  refine zc rfl (uX I (s.ae [1]) hr (by omega)) ?_
  intro u h s
  exact zk 3 rfl (WP.ret ⟨aa,_,rfl,_,rfl,s.del 2⟩)
 ·rw [J.good] at hg; cases hg
end
theorem Lc : ∃i,Tryz.prog.info? 28=some i∧i.size=1∧i.bytes=24 :=
 ⟨_,(show Tryz.prog.info? 28=some ((Tryz.prog.info? 28).getD default) by kernel_rfl),by kernel_rfl,by kernel_rfl⟩
section
variable {told:cX} {h:H} {S:List au} {X Y:au} {k:Nat} {v x:V} {b l c c':List Nat} {kd link extra:Nat} {cs:List (List Nat)}
theorem NC (I:W told)(s:Sat h (X::Y::S))(hX:cN X (cQ v b))(hY:cN Y (cQ x c))(hp:dA b kd link extra cs)(hf:26+4*(cs.length+1)+(tot cs+c.length)≤512):
  Call ⟨Tryz.prog,told⟩ 48 [v,.int .i64 (cs.length:Int),x] h fun r h'=>∃u b',r=.aX [u,.int .i64 0]∧dA b' kd link extra (cs++[c])∧Sat h' (bg u b'::X::Y::S):=by
 have hl:=hp.len
 have uG:=hp.low
 have hle:∀n,(le 2 n).length=2:=fun n=>dw 2 n
 generalize hn:cs.length=n at hf
 have J:=hp.gi
 have oA:∃lo,lo+(tot cs+c.length)=512:=⟨512-(tot cs+c.length),by omega⟩
 obtain ⟨lo,oA⟩:=oA
 have l1:(aR b 14 (le 2 (n+1))).length=512:=by rw [cm (by rw [hle]; omega),hl]
 have iN:fU (aR b 14 (le 2 (n+1)))=lo+c.length:=by
  have:fU (aR b 14 (le 2 (n+1)))=fU b:=AB (by rw [hle]; omega) (by rw [hle]; omega)
  rw [this]; omega
 refine Call.of_wp (I.free _ rfl) Tryz.func48 rfl rfl (zK 8 rfl (zc rfl (qG I s hX (by omega)) ?_))
 rintro r h' (⟨hg,u,rfl,s⟩ | ⟨hg,rfl,s⟩)
 ·obtain ⟨qd,_,cap,_,rfl,_⟩:=s.eo (by omega)
  refine zk 3 rfl ?_
  refine az.cx s rfl rfl rfl (cz h_) (fun p8 h s => ?_)
  dsimp only [V.cells,List.length_cons,List.length_nil,Nat.reduceAdd] at s
  refine zS rfl (s.ik (j:=0) rfl aW rfl rfl) (fun h s => ?_)
  dsimp only [setA] at s
  refine zk 3 rfl (WP.block (zK 3 rfl (zh rfl (ag rfl rfl aF) (rfl) (zk 6 rfl (zh rfl (ag rfl rfl aO) (by simp) ?_)))))
  refine zk 2 rfl (zl rfl (s.cG (k:=0) rfl bM aW) (zc rfl (jl I s (k:=1) rfl (bz _ _) hl) ?_))
  rintro r h' ⟨rfl,s⟩
  rw [J,hn]
  refine zh rfl (ag rfl rfl gv) (by simp) ?_
  refine zk 6 rfl (zl rfl (s.cG (k:=0) rfl bM aW) (zc rfl (K_ I (s.ae [1]) (bz _ _) hp) ?_))
  rintro r h' ⟨rfl,s⟩
  have s:=s.ae [1,0]
  dsimp only [bk,bringA,getA] at s
  rw [hn]
  refine zm rfl (zo rfl (aQ rfl rfl rfl (bw aM (s.aK (k:=3) rfl hY))) (zb rfl (by exact aV (aA (by omega) (by omega))) ?_))
  refine zh rfl (ag rfl rfl aO) (by simp; omega) ?_
  refine za rfl (zv (zj rfl (WP.skip (zw (zg rfl (zl rfl (by exact s.cG (k:=0) rfl bM aW) ?_))))))
  refine zc rfl (NA I s (k:=1) rfl (bz _ _) hp) ?_
  rintro r h' ⟨rfl,s⟩
  rw [hn]
  refine zm rfl (zo rfl (aQ rfl rfl rfl (bw aM (s.aK (k:=3) rfl hY))) (zb rfl (by exact aV (aA (by omega) (by omega))) ?_))
  refine zh rfl (ag rfl rfl aO) (by simp; omega) ?_
  refine zv (zj rfl (WP.skip (zg rfl (zl rfl (by exact s.cG (k:=0) rfl bM aW) ?_))))
  refine zc rfl (jl I s (k:=1) rfl (bz _ _) hl) ?_
  rintro r h' ⟨rfl,s⟩
  rw [J,hn]
  refine zk 3 rfl ?_
  have q1:((26:Int)+4*((n:Int)+1)).toNat=30+4*n:=by omega
  have q2:((26:Int)+4*(n:Int)).toNat=26+4*n:=by omega
  have s0:=s
  refine WP.drawn [ak,ak,ak,ak,ak,ak,ak,ak,ak,ak,ak,ak,ak,ak,ak,ak,ak,ak,ak,ak,ak] rfl (by kernel_rfl) (by kernel_rfl) ?_
  refine zF rfl (fe _ _) (zL rfl (s.ld (k:=0) rfl cy rfl) (zM rfl (zO rfl (ag rfl rfl (by exact aV (aA (by omega) (by omega)))) ?_)))
  refine zO rfl (ag rfl rfl (by exact jD (aA (by omega) (by omega)))) ?_
  refine zO rfl (ag rfl rfl (by exact aV (aA (by omega) (by omega)))) ?_
  refine zM rfl (zO rfl (ag rfl rfl (by exact aV (aA (by omega) (by omega)))) ?_)
  refine zO rfl (ag rfl rfl (by exact jD (aA (by omega) (by omega)))) ?_
  refine zO rfl (ag rfl rfl (by exact aV (aA (by omega) (by omega)))) ?_
  refine zO rfl (eD (p:=some (.int .i64 (26+4*((n:Int)+1)))) (q:=some (.int .i64 (26+4*((n:Int)+1)))) (m:=none) (p':=some (30+4*n)) (q':=some (30+4*n)) (m':=none) rfl rfl rfl rfl (by rw [dZ (by omega),q1]) (by rw [dZ (by omega),q1]) rfl (ic (s.buf (k:=1) rfl).view (aE _) (by omega)).1) ?_
  refine zF rfl (fe _ _) (zL rfl (s.ld (k:=0) rfl cy rfl) (zM rfl (zO rfl (ag rfl rfl (by exact jD (aA (by omega) (by omega)))) ?_)))
  refine zO rfl (ag rfl rfl (by exact aV (aA (by omega) (by omega)))) ?_
  refine zM rfl (zO rfl (ag rfl rfl (by exact jD (aA (by omega) (by omega)))) ?_)
  refine zO rfl (ag rfl rfl (by exact aV (aA (by omega) (by omega)))) ?_
  refine zO rfl (eD (p:=some (.int .i64 (26+4*(n:Int)))) (q:=some (.int .i64 (26+4*(n:Int)))) (m:=none) (p':=some (26+4*n)) (q':=some (26+4*n)) (m':=none) rfl rfl rfl rfl (by rw [dZ (by omega),q2]) (by rw [dZ (by omega),q2]) rfl (ic (s.buf (k:=1) rfl).view (aE _) (by omega)).1) ?_
  refine aD.any rfl rfl rfl rfl (OpR.Q6 rfl (s.ae [1]) rfl rfl rfl rfl (by omega) (by omega) (by omega)) ?_
  intro r h s
  have s:=s.ae [1,0]
  refine aD.nil ⟨⟨aa,aa,aa,aa,aa,aa,aa,aa,aa,aa,aa,aa,aa,aa,aa,aa,aa,aa,aa,aa,aa,aa⟩,?_⟩
  refine zg rfl (zl rfl (s.cG (k:=0) rfl bM aW) (zm rfl (zb rfl (by exact aV (aA (by omega) (by omega))) ?_)))
  refine zo rfl (cM rfl (by exact jf bG cS (fT (by omega) (by omega)))) ?_
  have en:(n:Int)+1=((n+1:Nat):Int):=by omega
  rw [en]
  refine zc rfl (mR (a:=14) (z:=2) (n:=n+1) I (s.ae [1]) (by decide) (by decide) (by omega) (by omega)) ?_
  rintro r h ⟨rfl,s⟩
  have s:=s.ae [1,0]
  refine zk 3 rfl (zl rfl (s.cG (k:=0) rfl bM aW) (zk 2 rfl (zc rfl (La (i:=n) (lo:=lo) I (s.ae [1,2]) hY l1 (by omega) iN (by omega)) ?_)))
  rintro r h ⟨rfl,s⟩
  have s:=s.ae [2,0,1,0]
  refine zk 3 rfl (zf rfl (fe _ _) (zl rfl (s.ld (k:=0) rfl cy rfl) (zk 3 rfl (WP.ret ⟨aa,_,rfl,?_⟩))))
  subst hn
  exact ⟨_,_,rfl,hp.ins hf oA,s.drop⟩
 ·rw [hp.good] at hg; cases hg
theorem Fk (hT:W told){i:Nat}(s:Sat h (X::Y::S))(hX:cN X (cQ v b))(hY:cN Y (cQ x c'))(J:dA b kd link extra cs)(hc:cs[i]?=some c)(Mp:c'.length=c.length):
  Call ⟨Tryz.prog,told⟩ 110 [v,.int .i64 (i:Int),x] h fun r h'=>∃u b',r=.aX [u,.int .i64 0]∧dA b' kd link extra (cs.set i c')∧Sat h' (bg u b'::X::Y::S):=by
 have hl:=J.len
 have uG:=J.low
 have eU:=J.fits
 have hi:=(List.getElem?_eq_some_iff.1 hc).1
 have wC:=kH (cs:=cs) (i:=i+1)
 have Je:=kG hc
 have I:=J.rep hc Mp
 obtain ⟨s1,s2,s3⟩:=J.slot i c hc
 generalize hf:cA b i=f at s1 s3 I
 have l1:(aR b f c').length=512:=by rw [cm (by omega),hl]
 refine Call.of_wp (hT.free _ rfl) Tryz.func110 rfl rfl (zK 8 rfl (zc rfl (qG hT s hX (by omega)) ?_))
 rintro r h' (⟨hg,u,rfl,s⟩ | ⟨hg,rfl,s⟩)
 ·obtain ⟨qd,_,cap,_,rfl,_⟩:=s.eo (by omega)
  refine zk 3 rfl ?_
  refine az.cx s rfl rfl rfl (cz h_) (fun p8 h s => ?_)
  dsimp only [V.cells,List.length_cons,List.length_nil,Nat.reduceAdd] at s
  refine zS rfl (s.ik (j:=0) rfl aW rfl rfl) (fun h s => ?_)
  dsimp only [setA] at s
  refine zk 3 rfl (WP.block (zK 3 rfl (zh rfl (ag rfl rfl aF) (rfl) (zk 6 rfl (zh rfl (ag rfl rfl aO) (by simp) ?_)))))
  refine zk 2 rfl (zl rfl (s.cG (k:=0) rfl bM aW) (zc rfl (jl hT s (k:=1) rfl (bz _ _) hl) ?_))
  rintro r h' ⟨rfl,s⟩
  rw [J.gi]
  refine zh rfl (ag rfl rfl od) (by simp; omega) ?_
  refine zk 2 rfl (zv (zj rfl (WP.skip (zg rfl (zl rfl (by exact s.cG (k:=0) rfl bM aW) ?_)))))
  refine zm rfl (zc rfl (vO (i:=i) hT s (k:=1) rfl (bz _ _) hl (by omega)) ?_)
  rintro r h' ⟨rfl,s⟩
  rw [hf,s2]
  refine zk 10 rfl (zo rfl (aQ rfl rfl rfl (bw aM (s.aK (k:=3) rfl hY))) (zm rfl (zt rfl (ag rfl rfl Km) (by simp; omega) ?_)))
  refine zk 4 rfl (zf rfl (fe _ _) (zl rfl (s.ld (k:=0) rfl cy rfl) (zm rfl ?_)))
  have j9:=jg (s.aK (k:=1) rfl (bz _ _)) (a:=f) (by omega)
  refine zo rfl (eD (p:=some (.int .i64 (f:Int))) (q:=none) (m:=none) (p':=some f) (q':=none) (m':=none) rfl rfl rfl rfl (by rw [dZ (by omega)]; rfl) rfl rfl j9.1) ?_
  refine zm rfl (az.any rfl rfl rfl (OpR.Mo rfl (s.ae [1,2]) hY rfl rfl rfl rfl (by omega) (aE _) (by omega)) ?_)
  intro r h s
  rw [eA (by omega)] at s
  have s:=s.ae [2,0,1,0]
  refine zk 3 rfl (zl rfl (s.cG (k:=0) rfl bM aW) (zk 3 rfl (zo rfl (aQ rfl rfl rfl (bw aM (s.aK (k:=3) rfl hY))) (zc rfl (yL (i:=i) (f:=f) (z:=c'.length) hT (s.ae [1]) l1 (by omega) (by omega) (by omega)) ?_))))
  rintro r h ⟨rfl,s⟩
  have s:=s.ae [1,0]
  exact zk 3 rfl (zf rfl (fe _ _) (zl rfl (s.ld (k:=0) rfl cy rfl) (zk 3 rfl (WP.ret ⟨aa,_,rfl,_,_,rfl,I,s.drop⟩))))
 ·rw [J.good] at hg; cases hg
theorem GO (hT:W told){c0 c1:List Nat}(s:Sat h (X::S))(hX:cN X (cQ v b))(hp:dA b kd link extra [c0,c1]):
  Call ⟨Tryz.prog,told⟩ 140 [v] h fun r h'=>∃w u0 u1,r=.aX [w,.int .i64 0]∧Sat h' (.arr 1 w [u0,u1]::bg u0 c0::bg u1 c1::X::S):=by
 have hl:=hp.len
 have hv:=s.aK (k:=0) rfl hX
 have eU:=hp.fits
 simp only [tot,bf,bR] at eU
 obtain ⟨pi,po,pc,rfl⟩:=gw hv (by omega)
 obtain ⟨i1,jI,iq,r9⟩:=Lc
 refine Call.of_wp (hT.free _ rfl) Tryz.func140 rfl rfl (zK 8 rfl (zc rfl (qg hT s hX (by omega)) ?_))
 rintro r h' ⟨s,(⟨hg,rfl⟩ | ⟨hg,rfl⟩)⟩
 ·refine az.op rfl rfl rfl (bT rfl) ?_
  refine zk 2 rfl ?_
  refine az.cx s rfl rfl rfl (cz h_) (fun p4 h s => ?_)
  dsimp only [V.cells,List.length_cons,List.length_nil,Nat.reduceAdd] at s
  refine zS rfl (s.ik (j:=0) rfl aW rfl rfl) (fun h s => ?_)
  dsimp only [setA] at s
  refine zk 6 rfl (zh rfl (ag rfl rfl aF) (rfl) (zk 5 rfl (zl rfl (s.cG (k:=0) rfl bM aW) (zc rfl (jl hT s (k:=1) rfl hX hl) ?_))))
  rintro r h' ⟨rfl,s⟩
  rw [show iO b=2 from hp.gi]
  obtain ⟨wv,h1,e3,s1⟩:=ux (P:=Tryz.prog) s fN jI og iq (by omega) rfl (by decide) (by decide) (n:=0) (c:=2) (by decide) (by decide)
  refine az.any rfl rfl rfl (OpR.of (R:=fun v h'=>v=wv∧h'=h1) (sN rfl rfl e3) ⟨rfl,rfl⟩) ?_
  rintro w0 h ⟨rfl,rfl⟩
  have s:Sat h (.arr 1 w0 []::_):=s1
  have s:=s.ae [1,1,0]
  dsimp only [bringA,getA,bk] at s
  refine zk 5 rfl (zl rfl (s.cG (k:=0) rfl bM aW) (zc rfl (jl hT s (k:=1) rfl hX hl) ?_))
  rintro r h' ⟨rfl,s⟩
  rw [show iO b=2 from hp.gi]
  refine zk 2 rfl (WP.block (WP.loop (zg rfl (zt rfl (ag rfl rfl aO) (by decide) ?_))))
  refine zk 5 rfl (WP.block (zK 7 rfl (zl rfl (s.cG (k:=0) rfl bM aW) (zm rfl (zc rfl (AE (i:=0) (c:=c0) hT s (k:=1) rfl hX hp rfl) ?_)))))
  rintro r h' ⟨f,rfl,hr,s⟩
  refine zc rfl (uX hT (s.ae [1]) hr (by omega)) ?_
  intro u0 h s
  have I:=(s.buf (k:=0) rfl).view.cells
  have s:=s.ae [3]
  dsimp only [bk,bringA,getA] at s
  obtain ⟨iv,h1,uP,s1⟩:=kU (P:=Tryz.prog) (k:=1) (x:=u0) s fN og kz rfl (by decide) (by decide) (by rw [I.1]; rfl) (by rw [I.1]; simp only [iQ,kO,I.2]; rfl)
  rw [I.1] at s1
  refine az.any rfl rfl rfl (OpR.of (R:=fun v h'=>v=iv∧h'=h1) (lP rfl uP) ⟨rfl,rfl⟩) ?_
  rintro v' h' ⟨rfl,rfl⟩
  obtain ⟨av,h2,r_,s2⟩:=ie (s1.ae [1,0]) fN jI og iq (by omega) rfl (by decide) (by simp)
  dsimp only [List.nil_append,bk,bringA] at s2
  refine az.any rfl rfl rfl (OpR.of (R:=fun v h'=>v=av∧h'=h2) (kS rfl rfl r_) ⟨rfl,rfl⟩) ?_
  rintro v' h ⟨rfl,rfl⟩
  have s:=(s2.del 1).ae [3,2,0,0]
  dsimp only [bk,bringA,getA] at s
  refine za rfl (zv (zr rfl (zb rfl (by exact aV (aA (by omega) (by omega))) ?_)))
  refine zm rfl (zv (WP.loop (zg rfl (zt rfl (ag rfl rfl aO) (by decide) ?_))))
  refine zk 5 rfl (WP.block (zK 7 rfl (zl rfl (s.cG (k:=0) rfl bM aW) (zm rfl (zc rfl (AE (i:=1) (c:=c1) hT s (k:=1) rfl hX hp rfl) ?_)))))
  rintro r h' ⟨f1,rfl,Ff,s⟩
  refine zc rfl (uX hT (s.ae [1]) Ff (by omega)) ?_
  intro u1 h s
  have J:=(s.buf (k:=0) rfl).view.cells
  have s:=s.ae [3]
  dsimp only [bk,bringA,getA] at s
  obtain ⟨U3,h1,uP,s1⟩:=kU (P:=Tryz.prog) (k:=1) (x:=u1) s fN og kz rfl (by decide) (by decide) (by rw [J.1]; rfl) (by rw [J.1]; simp only [iQ,kO,J.2]; rfl)
  rw [J.1] at s1
  refine az.any rfl rfl rfl (OpR.of (R:=fun v h'=>v=U3∧h'=h1) (lP rfl uP) ⟨rfl,rfl⟩) ?_
  rintro v' h' ⟨rfl,rfl⟩
  obtain ⟨U4,h2,r_,s2⟩:=ie (s1.ae [1,0]) fN jI og iq (by omega) rfl (by decide) (by simp)
  dsimp only [List.cons_append,List.nil_append,bk,bringA] at s2
  refine az.any rfl rfl rfl (OpR.of (R:=fun v h'=>v=U4∧h'=h2) (kS rfl rfl r_) ⟨rfl,rfl⟩) ?_
  rintro v' h ⟨rfl,rfl⟩
  have s:=(s2.del 1).ae [3,2,0,1,0]
  dsimp only [bk,bringA,getA] at s
  refine za rfl (zv (zr rfl (zb rfl (by exact aV (aA (by omega) (by omega))) ?_)))
  refine zm rfl (zv (WP.loop (zg rfl (zh rfl (ag rfl rfl aO) (by decide) ?_))))
  exact zk 3 rfl (WP.exit (zK 6 rfl (WP.ret ⟨aa,_,rfl,_,_,_,rfl,(s.ae [2,2,2,1]).del 4⟩)))
 ·rw [hp.good] at hg; cases hg
end
def Sm (N:Nat)(ε ε':aH): Prop:=(∀m,pgA ε' m=pgA ε m)∧∀P:VP,om N P→vw P ε→vw P ε'
theorem Sm.refl (N:Nat)(ε:aH): Sm N ε ε:=⟨fun _=>rfl,fun _ _ h=>h⟩
theorem Sm.trans {N:Nat}{a b c:aH}(h:Sm N a b)(g:Sm N b c): Sm N a c:=⟨fun m=>(g.1 m).trans (h.1 m),fun P I hv=>g.2 P I (h.2 P I hv)⟩
structure n4 (told : cX) (N B : Nat) (rv : V) (A : aH → au) (pg : aH → Int → List Nat) : Prop where
 iface : ∃ ty u f, rv = .iface ty u ∧ methV Tryz.prog ty "Read" = some f ∧ ∀ {h : H} {S : List au} {ε : aH} {n : Int}, EI N B ε → 0 ≤ n → n < N → Sat h (A ε :: S) →
  Call ⟨Tryz.prog, told⟩ f [u, .int .i64 n] h fun v h' => ∃ w ε', v = .aX [w, .int .i64 0] ∧ EI N B ε' ∧ Sm N ε ε' ∧ Sat h' (bg w (pg ε n) :: A ε' :: S)
 same : ∀ {ε ε' : aH}, Sm N ε ε' → ∀ m, pg ε' m = pg ε m
section
variable {P:Program} {h:H} {S:List au} {k id off i:Nat} {v c:V} {cs:List V} {t te t':TypeId}
theorem Sat.uY (s:Sat h S)(hk:getA S k=some (.arr 1 v cs))(hi:cs[i]?=some c)(hu:P.underlying t=some (.slice te))(I:bh P te=some 1)(e:indexAddrV P t v (.int .i64 (i:Int))=some (.ptr id off))(ha:bS P t'=some false): loadV P h t' (.ptr id off)=some c:=by
 obtain ⟨J,off',e1,e2⟩:=jZ s hk hi hu I
 rw [e] at e1
 have e3:V.ptr id off=V.ptr J off':=bH e1
 rw [e3]; exact e2 _ ha
theorem ND {E:List (Nat×V)}{s d:TypeId}{x:Operand}{v r:V}{h₁:H}(I:lookO E x=some v)(J:convV P h s d v=none)(h2:convB P h s d v=some (r,h₁)): opE P E h (.convert s d x)=some (r,h₁):=by
 simp only [opE,gY,I,J,h2]
end
def ey : List Nat:=[109,117,110,105,109,101,110,116]
theorem Ld {h:H}: buildSliceV Tryz.prog h 28 8 [(0,.int .u8 109),(1,.int .u8 117),(2,.int .u8 110),(3,.int .u8 105),(4,.int .u8 109),(5,.int .u8 101),(6,.int .u8 110),(7,.int .u8 116)]=some (.sl h.next 0 8 (.exact 8),newRow h (ofBytes ey)):=by
 simp only [buildSliceV,aM,dK,p9,V.cells]
 rfl
theorem vR {P:Program}{h:H}{t:TypeId}{x y:Operand}{a b:Nat}(J:0<b)(hw:a<9223372036854775808): binV P h .quo t x y (.int .i64 (a:Int)) (.int .i64 (b:Int))=some (.int .i64 ((a/b:Nat):Int)):=by
 simp only [binV,ikBeq,af,intV]
 have:intBeq (b:Int) 0=false:=by rw [kV]; simp; omega
 have I:a/b≤a:=zI a b
 rw [this,ay,Ec (by omega),←Int.natCast_ediv]
 generalize a/b=q at I ⊢
 rw [aA (by omega) (by omega)]
section
variable {told:cX} {h:H} {S:List au} {X Y:au} {N B n:Nat} {v x y rv:V} {b l c R M:List Nat} {kd link extra:Nat} {cs:List (List Nat)} {A:aH→au} {pg:aH→Int→List Nat} {ε:aH}
theorem C4 (J:W told)(s:Sat h S): Call ⟨Tryz.prog,told⟩ 74 [] h fun r h'=>Sat h' (.cr r ey::S):=by
 refine Call.of_wp (J.free _ rfl) Tryz.func74 rfl rfl (zK 6 rfl (az.any rfl rfl rfl (OpR.of (R:=fun v h'=>v=.sl h.next 0 8 (.exact 8)∧h'=newRow h (ofBytes ey)) (lP rfl Ld) ⟨rfl,rfl⟩) ?_))
 rintro v I ⟨rfl,rfl⟩
 have s1:Sat (newRow h (ofBytes ey)) (pt h.next (.cells 8 (ofBytes ey) false)::S):=s.new _
 generalize newRow h (ofBytes ey)=I at s1
 generalize h.next=id at s1
 have hg:=s1.row (k:=0) rfl
 have e1:convB Tryz.prog I 28 28 (.sl id 0 8 (.exact 8))=some (.sl id 0 8 (.exact 8),I.put id (some (.cells 8 (ofBytes ey) true))):=by
  simp only [convB,aM,Tryz.underlying5,hg]
  rfl
 have e0:convV Tryz.prog I 28 28 (.sl id 0 8 (.exact 8))=none:=by
  simp only [convV,aM]
 have s2:Sat (I.put id (some (.cells 8 (ofBytes ey) true))) (pt id (.cells 8 (ofBytes ey) true)::S):=s1.put (k:=0) rfl
 have s3:Sat (I.put id (some (.cells 8 (ofBytes ey) true))) (.cr (.sl id 0 8 (.exact 8)) ey::S):=s2.freeze.gR (B:=.cr (.sl id 0 8 (.exact 8)) ey) fun m r hm=>⟨by decide,.inr ⟨id,0,.exact 8,8,_,true,rfl,hm,rfl,by decide,rfl,by decide⟩⟩
 refine az.any rfl rfl rfl (OpR.of (R:=fun v h'=>v=.sl id 0 8 (.exact 8)∧h'=I.put id (some (.cells 8 (ofBytes ey) true))) (ND rfl e0 e1) ⟨rfl,rfl⟩) ?_
 rintro v h2 ⟨rfl,rfl⟩
 exact zk 2 rfl (WP.ret ⟨aa,_,rfl,s3⟩)
theorem Jh (J:W told)(hx:View h x l)(hy:View h y c): Call ⟨Tryz.prog,told⟩ 141 [x,y] h fun r h'=>r=.bool (decide (l=c))∧h'=h:=by
 refine Call.of_wp (J.free _ rfl) Tryz.func141 rfl rfl (zK 7 rfl (zo rfl (cM rfl (RY hx)) (zm rfl (zo rfl (cM rfl (RY hy)) ?_))))
 by_cases I:l=c
 ·skip
  exact zt rfl (ag rfl rfl L0) (decide_eq_true I) (zk 2 rfl (WP.ret ⟨aa,_,rfl,by rw [cK I],rfl⟩))
 ·skip
  exact zh rfl (ag rfl rfl L0) (decide_eq_false I) (zk 2 rfl (WP.ret ⟨aa,_,rfl,by rw [cU I],rfl⟩))
theorem qq (I:W told)(J:1≤n)(h2:n≤3000): Call ⟨Tryz.prog,told⟩ 54 [.int .i64 (n:Int)] h fun r h'=>r=.int .i64 2∧h'=h:=by
 have e:(n+2999)/3000=1:=by omega
 refine Call.of_wp (I.free _ rfl) Tryz.func54 rfl rfl (zK 7 rfl (zb rfl (by exact aV (aA (by omega) (by omega))) ?_))
 refine zb rfl (by exact jC (aA (by omega) (by omega))) ?_
 refine zo rfl (ag (r:=.int .i64 (((n+2999)/3000:Nat):Int)) rfl rfl (by rw [show (n:Int)+3000-1=((n+2999:Nat):Int) by omega]; exact vR (by decide) (by omega))) ?_
 rw [e]
 refine zb rfl (by exact aV (aA (by omega) (by omega))) ?_
 exact zk 2 rfl (WP.ret ⟨aa,_,rfl,rfl,rfl⟩)
theorem C5 (hT:W told)(hR:n4 told N B rv A pg)(gU:EI N B ε)(hN:1≤N)(hp:dA (pg ε 0) 201 n extra [ey,R])(yM:R.length=64)(s:Sat h (A ε::S)):
  Call ⟨Tryz.prog,told⟩ 91 [rv] h fun v h'=>∃u ε',v=.aX [u,.int .i64 (n:Int),.bool true,.int .i64 0]∧EI N B ε'∧Sm N ε ε'∧Sat h' (bg u R::A ε'::S):=by
 obtain ⟨ty,u,f,rfl,hm,gh⟩:=hR.iface
 refine Call.of_wp (hT.free _ rfl) Tryz.func91 rfl rfl (zK 10 rfl (az.any rfl rfl rfl (OpR.invoke rfl rfl rfl hm rfl (gh gU (by decide) (by omega) s)) ?_))
 rintro v h ⟨u,ε',rfl,Ba,hs,s⟩
 refine zk 10 rfl (zh rfl (ag rfl rfl aF) (rfl) (zk 6 rfl (zc rfl (GO hT s (bz _ _) hp) ?_)))
 rintro v h ⟨w,u0,u1,rfl,s⟩
 obtain ⟨R1,I,g1,g2⟩:=jZ (P:=Tryz.prog) s (k:=0) (i:=0) (c:=u0) rfl rfl fN kz
 obtain ⟨R2,J,g3,g4⟩:=jZ (P:=Tryz.prog) s (k:=0) (i:=1) (c:=u1) rfl rfl fN kz
 have U5:=(s.ny (j:=0) rfl).2.2
 have xn:=kT (s.buf (k:=1) rfl).view
 refine zk 8 rfl ?_
 have s0:=s
 refine WP.drawn [ak,ak,ak,ak,ak,ak,ak,ak,some (0,2),some (0,2),some (0,2),ak,ak,ak,ak,ak,ak,ak,ak,ak,ak,ak] rfl (by kernel_rfl) (by kernel_rfl) ?_
 refine zM rfl (aD.mI rfl rfl rfl rfl (ag rfl rfl aF) (by decide) ?_)
 refine zM rfl (zM rfl (zO rfl (aQ rfl rfl rfl (s.gI (n:=2) (j:=0) rfl rfl (by decide) fN)) ?_))
 refine aD.mI rfl rfl rfl rfl (ag rfl rfl aF) (by decide) ?_
 refine zO rfl (iB rfl rfl) (zM rfl (zM rfl (zO rfl (cI (r:=.ptr R1 I) rfl rfl g1) (zL rfl (s.uY (k:=0) (i:=0) rfl rfl fN kz g1 cy) (aD.any rfl rfl rfl rfl (OpR.call rfl rfl rfl rfl (C4 hT s)) ?_)))))
 intro mv h s
 have s:=s.ae [1,1,1,1,1,0]
 have s1:=s
 refine aD.any rfl rfl rfl rfl (OpR.call rfl rfl rfl rfl (Jh hT (s.buf (k:=1) rfl).view (s.aK (k:=5) rfl (d_ _ _)))) ?_
 rintro r h' ⟨rfl,rfl⟩
 rw [show decide (ey=ey)=true from cK rfl]
 refine zO rfl (eP rfl rfl) (zO rfl (iB rfl rfl) (zM rfl (zM rfl (zO rfl (cI (r:=.ptr R2 J) rfl rfl g3) (zL rfl (s.uY (k:=0) (i:=1) rfl rfl fN kz g3 cy) (zO rfl (aQ rfl rfl rfl (bw aM (s.aK (k:=2) rfl (bz _ _)))) ?_))))))
 rw [yM]
 refine aD.mI rfl rfl rfl rfl (ag rfl rfl aF) (by decide) ?_
 refine zO rfl (iB rfl rfl) ?_
 refine aD.nil ⟨⟨aa,aa,aa,aa,aa,aa,aa,aa,fun _ _=>.inr ⟨rfl,⟨_,bT rfl⟩,U5⟩,fun _ _=>.inr ⟨rfl,⟨_,cI (r:=.ptr R1 I) rfl rfl g1⟩,bP _ rfl⟩,fh (.inr ⟨rfl,⟨_,bp rfl (s0.uY (k:=0) (i:=0) rfl rfl fN kz g1 cy)⟩,xn⟩) (.inr ⟨rfl,⟨_,bp rfl (s1.uY (k:=0) (i:=0) rfl rfl fN kz g1 cy)⟩,xn⟩),aa,aa,aa,aa,aa,aa,aa,aa,aa,aa,aa,aa⟩,?_⟩
 refine zK 5 rfl ?_
 have BU:=hp.len
 refine zc rfl (E0 hT (s.ae [3]) (bz _ _) (by omega)) ?_
 rintro v h ⟨s,(⟨hg,rfl⟩ | ⟨hg,rfl⟩)⟩
 ·rw [show (pg ε 0).getD 12 0=201 from hp.kind,show cC (pg ε 0) 18 4=n from hp.link]
  have s:=s.ae [1,1,1,1,0]
  refine zk 16 rfl (zh rfl (ag rfl rfl aF) (by decide) ?_)
  exact zk 6 rfl (zo rfl (cI (r:=.ptr R2 J) rfl rfl g3) (zl rfl (s.uY (k:=0) (i:=1) rfl rfl fN kz g3 cy) (zk 6 rfl (WP.ret ⟨aa,_,rfl,_,ε',rfl,Ba,hs,(((((s.ae [2,2]).del 5).del 4).del 3).del 2)⟩))))
 ·rw [hp.good] at hg; cases hg
theorem nE (hT:W told)(hR:n4 told N B rv A pg)(J:EI N B ε)(hN:1≤N)(hp:dA (pg ε 0) 201 n extra [ey,R])(yM:R.length=64)(s:Sat h (A ε::S)):
  Call ⟨Tryz.prog,told⟩ 53 [rv] h fun v h'=>∃u ε',v=.aX [u,.int .i64 (n:Int),.int .i64 0]∧EI N B ε'∧Sm N ε ε'∧Sat h' (bg u R::A ε'::S):=by
 refine Call.of_wp (hT.free _ rfl) Tryz.func53 rfl rfl (zK 9 rfl (zc rfl (C5 hT hR J hN hp yM s) ?_))
 rintro v h ⟨u,ε',rfl,I,hs,s⟩
 refine zk 9 rfl (zv (zw (WP.block (zg rfl (zm rfl (zh rfl (ag rfl rfl aF) (rfl) (za rfl (zv (zj rfl (zg rfl (zm rfl (zo rfl (eP rfl rfl) (za rfl (zv (zj rfl (WP.skip (zg rfl (zk 5 rfl (zv ?_)))))))))))))))))))
 refine WP.ret ⟨aa,_,rfl,?_⟩
 exact ⟨u,ε',rfl,I,hs,s⟩
theorem C6 (hT:W told)(hR:n4 told N B rv A pg)(J:EI N B ε)(hN:1≤N)(hp:dA (pg ε 0) 201 n extra [ey,R])(yM:R.length=64)(s:Sat h (A ε::S)):
  Call ⟨Tryz.prog,told⟩ 37 [rv] h fun v h'=>∃ε',v=.aX [.bool true,.int .i64 0]∧EI N B ε'∧Sm N ε ε'∧Sat h' (A ε'::S):=by
 refine Call.of_wp (hT.free _ rfl) Tryz.func37 rfl rfl (zK 8 rfl (zc rfl (C5 hT hR J hN hp yM s) ?_))
 rintro v h ⟨u,ε',rfl,I,hs,s⟩
 exact zk 17 rfl (WP.ret ⟨aa,_,rfl,ε',rfl,I,hs,s.drop⟩)
theorem NF (J:W told)(hR:n4 told N B rv A pg)(gU:EI N B ε)(hN:1≤N)(hp:dA (pg ε 0) 201 n extra [ey,R])(yM:R.length=64)(h1:1≤n)(h2:n≤3000)(s:Sat h (A ε::S)):
  Call ⟨Tryz.prog,told⟩ 66 [rv] h fun v h'=>∃ε',v=.aX [.int .i64 2,.int .i64 0]∧EI N B ε'∧Sm N ε ε'∧Sat h' (A ε'::S):=by
 refine Call.of_wp (J.free _ rfl) Tryz.func66 rfl rfl (zK 8 rfl (zc rfl (nE J hR gU hN hp yM s) ?_))
 rintro v h ⟨u,ε',rfl,I,hs,s⟩
 refine zk 12 rfl (zh rfl (ag rfl rfl aF) (rfl) (zk 6 rfl (zc rfl (qq J h1 h2) ?_)))
 rintro v h' ⟨rfl,rfl⟩
 exact zk 3 rfl (WP.ret ⟨aa,_,rfl,ε',rfl,I,hs,s.drop⟩)
theorem nF (hT:W told)(hR:n4 told N B rv A pg)(J:EI N B ε)(hN:2≤N)(hp:dA (pg ε 1) kd link extra [M])(hM:M.length=375)(s:Sat h (A ε::S)):
  Call ⟨Tryz.prog,told⟩ 55 [rv,.int .i64 0] h fun v h'=>∃w u ε',v=.aX [w,u,.int .i64 0]∧EI N B ε'∧Sm N ε ε'∧Sat h' (bg u M::bg w (pg ε 1)::A ε'::S):=by
 obtain ⟨ty,u,f,rfl,hm,gh⟩:=hR.iface
 refine Call.of_wp (hT.free _ rfl) Tryz.func55 rfl rfl (zK 11 rfl (zb rfl (by exact aV (aA (by omega) (by omega))) ?_))
 refine az.any rfl rfl rfl (OpR.invoke rfl rfl rfl hm rfl (gh (n:=1) J (by decide) (by omega) s)) ?_
 rintro v h ⟨w,ε',rfl,I,hs,s⟩
 refine zk 9 rfl (zh rfl (ag rfl rfl aF) (rfl) (zk 6 rfl (zc rfl (Lb (i:=0) hT s (bz _ _) hp rfl) ?_)))
 rintro v h ⟨u,rfl,s⟩
 refine zk 10 rfl (zh rfl (ag rfl rfl aF) (rfl) (zk 2 rfl (zo rfl (aQ rfl rfl rfl (bw aM (s.aK (k:=0) rfl (bz _ _)))) ?_)))
 rw [hM]
 refine zh rfl (ag rfl rfl aF) (by decide) ?_
 exact zk 12 rfl (WP.ret ⟨aa,_,rfl,w,u,ε',rfl,I,hs,s⟩)
theorem NG (J:W told)(hR:n4 told N B rv A pg)(gU:EI N B ε)(hN:1≤N)(hp:dA (pg ε 0) 201 n extra [ey,R])(yM:R.length=64){i:Int}(WG : -1≤i)(jI:i≤16)(s:Sat h (A ε::S)):
  Call ⟨Tryz.prog,told⟩ 69 [rv,.int .i64 i] h fun v h'=>∃ε',v=(if 0≤i∧i<16 then .aX [.int .i64 (cC R (4*i.toNat) 4:Nat),.int .i64 0] else .aX [.int .i64 0,.int .i64 1])∧EI N B ε'∧Sm N ε ε'∧Sat h' (A ε'::S):=by
 refine Call.of_wp (J.free _ rfl) Tryz.func69 rfl rfl (zK 8 rfl (zc rfl (nE J hR gU hN hp yM s) ?_))
 rintro v h ⟨u,ε',rfl,I,hs,s⟩
 refine zk 9 rfl (WP.block (zK 3 rfl (zh rfl (ag rfl rfl aF) (rfl) (zk 6 rfl ?_))))
 by_cases h0:i<0
 ·skip
  refine zt rfl (ag rfl rfl aO) (by simp; omega) ?_
  exact zk 12 rfl (WP.ret ⟨aa,_,rfl,ε',by rw [ai (by omega)],I,hs,s.drop⟩)
 ·skip
  refine zh rfl (ag rfl rfl aO) (by simp; omega) ?_
  refine zk 2 rfl ?_
  by_cases h1:16≤i
  ·skip
   refine zt rfl (ag rfl rfl od) (by simp; omega) ?_
   exact zk 9 rfl (WP.ret ⟨aa,_,rfl,ε',by rw [ai (by omega)],I,hs,s.drop⟩)
  ·skip
   refine zh rfl (ag rfl rfl od) (by simp; omega) ?_
   refine zk 2 rfl (zv (zj rfl (WP.skip (zg rfl (zk 2 rfl (zb rfl (by exact jD (aA (by omega) (by omega))) ?_))))))
   refine zm rfl (zb rfl (by exact aV (aA (by omega) (by omega))) ?_)
   refine zb rfl (by exact jD (aA (by omega) (by omega))) ?_
   obtain ⟨k,rfl⟩:∃k:Nat,i=k:=⟨i.toNat,by omega⟩
   have hv:=(s.buf (k:=0) rfl).view
   have q1:(4*(k:Int)).toNat=4*k:=by omega
   have q2:(4*((k:Int)+1)).toNat=4*k+4:=by omega
   refine zo rfl (eD (p:=some (.int .i64 (4*(k:Int)))) (q:=some (.int .i64 (4*((k:Int)+1)))) (m:=none) (p':=some (4*k)) (q':=some (4*k+4)) (m':=none) rfl rfl rfl rfl (by rw [dZ (by omega),q1]) (by rw [dZ (by omega),q2]) rfl (ic hv (by omega) (by omega)).1) ?_
   refine zc rfl (As J s (k:=0) rfl (sQ (bz _ _) (a:=4*k) (b:=4*k+4) (by omega) (by omega)) (by simp; omega)) ?_
   rintro v h' ⟨rfl,rfl⟩
   have br:=uF (a:=4*k) (z:=4) hv.1
   have ea:leN ((R.take (4*k+4)).drop (4*k))=cC R (4*k) 4:=rfl
   rw [ea]
   refine zo rfl (cM rfl (by exact jf cS bG (aA (by omega) (by omega)))) ?_
   exact zk 3 rfl (WP.ret ⟨aa,_,rfl,ε',by rw [aq (by omega)]; rfl,I,hs,s.drop⟩)
end
def bt (M:List Nat)(i:Nat): Bool:=(M.getD (i/8) 0).testBit (i%8)
def Be (M:List Nat)(i:Nat): List Nat:=M.set (i/8) (Nat.lor (M.getD (i/8) 0) (2^(i%8)))
def yN (M:List Nat)(i:Nat): List Nat:=M.set (i/8) (Nat.land (M.getD (i/8) 0) (255-2^(i%8)))
theorem C7 {M:List Nat}{i j b:Nat}(hi:i<M.length): (M.set i b).getD j 0=if i=j then b else M.getD j 0:=by
 rw [dF,vg]
 by_cases h:i=j
 ·subst h; rw [aq rfl,aq rfl,aq hi]; rfl
 ·rw [ai h,ai h,dF]
theorem Mq {M:List Nat}{i j:Nat}(hi:i/8<M.length): bt (Be M i) j=if j=i then true else bt M j:=by
 unfold bt Be
 rw [C7 hi]
 by_cases h:i/8=j/8
 ·rw [aq h,show Nat.lor (M.getD (i/8) 0) (2^(i%8))=(M.getD (i/8) 0) ||| (2^(i%8)) from rfl,Nat.testBit_or,y6,h]
  by_cases I:j=i
  ·subst I; simp
  ·rw [ai I,show decide (i%8=j%8)=false from cU (by omega),Bool.or_false]
 ·rw [ai h,ai (by intro e; exact h (by rw [e]))]
theorem GP {M:List Nat}{i j:Nat}(hi:i/8<M.length): bt (yN M i) j=if j=i then false else bt M j:=by
 unfold bt yN
 rw [C7 hi]
 by_cases h:i/8=j/8
 ·have e:255-2^(i%8)=2^8-(2^(i%8)+1):=by omega
  have I:2^(i%8)<2^8:=rf (by decide) (by omega)
  rw [aq h,show Nat.land (M.getD (i/8) 0) (255-2^(i%8))=(M.getD (i/8) 0) &&& (255-2^(i%8)) from rfl,Nat.testBit_and,e,Nat.testBit_two_pow_sub_succ I,y6,h]
  by_cases J:j=i
  ·subst J; simp
  ·rw [ai J,show decide (i%8=j%8)=false from cU (by omega),show decide (j%8<8)=true from cK (by omega)]
   simp
 ·rw [ai h,ai (by intro e; exact h (by rw [e]))]
theorem Fl {M:List Nat}{i:Nat}: (Be M i).length=M.length:=bI
theorem Fo {M:List Nat}{i:Nat}: (yN M i).length=M.length:=bI
theorem Ji {a k:Nat}(I:a<256)(J:k<8): Nat.lor a (2^k)<256:=Nat.or_lt_two_pow (n:=8) I (rf (by decide) J)
theorem AF {a c:Nat}(I:a<256): Nat.land a c<256:=y9 Nat.and_le_left I
def oP (x:Nat): Nat:=((List.range 8).filter fun i=>x.testBit i).length
def jo (x:Nat): Nat:=((List.range 8).filter fun i => !x.testBit i).headD 8
theorem Fp : ∀x,x<255→jo x<8∧x.testBit (jo x)=false∧∀j,j<jo x→x.testBit j=true:=by
 have:∀x,x<255→(decide (jo x<8)&&(!x.testBit (jo x)&&(List.range (jo x)).all fun j=>x.testBit j))=true:=by decide +kernel
 intro x I
 have h:=this x I
 simp only [aG,dR,rz,m_,List.mem_range] at h
 exact ⟨h.1,h.2.1,h.2.2⟩
theorem Tf : ∀x,x<256→(∀j,j<8→x.testBit j=true)→x=255:=by
 have:∀x,x<256→((List.range 8).all fun j=>x.testBit j)=true→x=255:=by decide +kernel
 intro x I h
 exact this x I (List.all_eq_true.2 fun j J=>h j (List.mem_range.1 J))
theorem vS {M:List Nat}{k j:Nat}(I:j<8): bt M (8*k+j)=(M.getD k 0).testBit j:=by
 unfold bt
 rw [show (8*k+j)/8=k by omega,show (8*k+j)%8=j by omega]
section
variable {P:Program} {h:H} {t:TypeId} {x y:Operand} {a b k:Nat}
theorem Jj (I:k<8): binV P h .shr t x y (.int .u8 (a:Int)) (.int .i64 (k:Int))=some (.int .u8 ((a/2^k:Nat):Int)):=by
 simp only [binV,shiftV,IntKind.bits,cg]
 rw [show decide ((k:Int)<0)=false by simp,ay,show min k 8=k by omega]
 have e:(2:Int)^k=((2^k:Nat):Int):=by push_cast; rfl
 rw [e,u_ _ (Int.natCast_nonneg _),←Int.natCast_ediv]
theorem PW (J:k<8): binV P h .shl t x y (.int .u8 1) (.int .i64 (k:Int))=some (.int .u8 ((2^k:Nat):Int)):=by
 have I:2^k<256:=rf (a:=2) (n:=8) (by decide) J
 simp only [binV,shiftV,IntKind.bits,cg]
 rw [show decide ((k:Int)<0)=false by simp,ay,show min k 8=k by omega]
 have e:(1:Int)*2^k=((2^k:Nat):Int):=by rw [Int.one_mul]; push_cast; rfl
 rw [e]
 generalize (2^k:Nat)=q at I ⊢
 rw [yh (by omega) (by omega)]
theorem vT {op:BinOp}{f:Nat→Nat→Nat}(ha:a<256)(hb:b<256)(hf:f a b<256)(he:bitsV op .u8 (a:Int) (b:Int)=some (.int .u8 (IntKind.u8.wrap (f ((a:Int)%(2^(IntKind.u8).bits:Int)).toNat ((b:Int)%(2^(IntKind.u8).bits:Int)).toNat:Nat)))):
  bitsV op .u8 (a:Int) (b:Int)=some (.int .u8 ((f a b:Nat):Int)):=by
 have I:((a:Int)%(2^(IntKind.u8).bits:Int)).toNat=a:=by simp only [IntKind.bits]; omega
 have J:((b:Int)%(2^(IntKind.u8).bits:Int)).toNat=b:=by simp only [IntKind.bits]; omega
 rw [he,I,J,yh (by omega) (by omega)]
theorem Jk (I:a<256)(J:b<256): binV P h .and t x y (.int .u8 (a:Int)) (.int .u8 (b:Int))=some (.int .u8 ((Nat.land a b:Nat):Int)):=by
 simp only [binV,ikBeq,af,intV]
 exact vT (f:=Nat.land) I J (AF I) rfl
theorem Q7 (I:a<256)(J:k<8): binV P h .or t x y (.int .u8 (a:Int)) (.int .u8 ((2^k:Nat):Int))=some (.int .u8 ((Nat.lor a (2^k):Nat):Int)):=by
 simp only [binV,ikBeq,af,intV]
 exact vT (f:=Nat.lor) I (rf (a:=2) (n:=8) (by decide) J) (Ji I J) rfl
theorem Jl (I:a<256)(J:b<256): binV P h .andNot t x y (.int .u8 (a:Int)) (.int .u8 (b:Int))=some (.int .u8 ((Nat.land a (255-b):Nat):Int)):=by
 simp only [binV,ikBeq,af,intV]
 exact vT (f:=fun a b=>Nat.land a (255-b)) I J (AF I) rfl
theorem C8 (I:a<256): unV .xor (.int .u8 (a:Int))=some (.int .u8 ((255-a:Nat):Int)):=by
 have:∀a,a<256→Nat.xor 255 a=255-a:=by decide +kernel
 simp only [unV]
 have e:bitsV .xor .u8 ((255:Nat):Int) (a:Int)=some (.int .u8 ((Nat.xor 255 a:Nat):Int)):=vT (f:=Nat.xor) (by decide) I (by rw [this a I]; omega) rfl
 rw [this a I] at e
 exact e
theorem PX : Nat.land (a/2^k) 1=if a.testBit k=true then 1 else 0:=by
 rw [Eb,show Nat.land (a/2^k) 1=(a/2^k) &&& 1 from rfl,Nat.and_one_is_mod]
 by_cases h:a/2^k%2=1
 ·rw [h,aq (decide_eq_true rfl)]
 ·rw [ai (by simpa using h)]; omega
theorem Jm {f:Nat→Nat}{L:List Nat}(hu:P.underlying t=some .string)(I:∀x,x<256→nth L x=some (f x))(J:a<256): indexV P t (.str L) (.int .u8 (a:Int))=some (.int .u8 ((f a:Nat):Int)):=by
 simp only [indexV,hu,cg,I a J]
 rw [show decide ((0:Int)≤(a:Int))=true by simp,af]
end
end Go.Proofs.YtefepnnfphdkpaaGreat.Am
