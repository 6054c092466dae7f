/- ChainNeeds: a part of its proof; conditions: its statement's. -/
import Derived.Test.YtefepnnfphdkpaaGreatB18
namespace Go.Proofs.YtefepnnfphdkpaaGreat.Am
open Go
section
variable {told:cK} {h:H} {S:List aq} {X:aq} {p:Nat} {δ:Dk}
def Dk.wr (δ:Dk)(n:Int)(b:List Nat): Dk:={ δ.gq with waiting:=δ.waiting++[(n.toNat,b)],now:=cY n b δ.now }
theorem Nr : ∃i,Tryz.prog.info? 151=some i∧i.size=2∧i.bytes=32 :=
 ⟨_,(show Tryz.prog.info? 151=some ((Tryz.prog.info? 151).getD default) by kernel_rfl),by kernel_rfl,by kernel_rfl⟩
theorem Sat.PN {cs:List V}{m:List Wr}{u:V}{x:Wr}(s:Sat h (.cE u x.2::yG cs m::S))(hu:u≠.bu): Sat h (yG (cs++[.int .i64 (x.1:Int),u]) (m++[x])::S) :=
 s.two (bn.cE _ _) (bn.wr _ _) fun _ _ I J=>No J hu I
theorem IT (hT:W told){n:Int}{x:V}{b:List Nat}(s:Sat h (bp p δ::X::S))(hX:cI X (cL x b))(hb:b.length<1073741824)(hf:δ.bL<4294967296)(hw:δ.waiting.length≤268435456):
  Call ⟨Tryz.prog,told⟩ 138 [.ptr p 0,.int .i64 n,x] h fun v h' =>
  (δ.dead=true∧v=.int .i64 9∧Sat h' (bp p δ::X::S)) ∨
  (δ.dead=false∧¬(0≤n∧n<δ.aW.length∧b.length=512)∧v=.int .i64 1∧Sat h' (bp p δ::X::S)) ∨
  (δ.dead=false∧0≤n∧n<δ.aW.length∧b.length=512∧δ.bL=0∧v=.int .i64 9∧Sat h' (bp p { δ.die with AF:=some (n.toNat,b) }::X::S)) ∨
  (δ.dead=false∧0≤n∧n<δ.aW.length∧b.length=512∧δ.bL≠0∧v=.int .i64 0∧Sat h' (bp p (δ.wr n b)::X::S)):=by
 have J:=s
 obtain ⟨pg,wt,nw,lg,mk,tn,tl,ops,s⟩:=cu.1 s
 refine Call.of_wp (hT.free _ rfl) Tryz.func138 rfl rfl (zK 5 rfl (WP.block (zK 4 rfl (zf rfl (mo _ _) ?_))))
 refine zd rfl (aO rfl (s.ld (k:=0) rfl m6 rfl)) ?_ ?_
 ·intro hd
  exact zk 7 rfl (WP.ret ⟨aa,_,rfl,.inl ⟨hd,rfl,J⟩⟩)
 ·intro hd
  refine zk 7 rfl (zc rfl (IQ hT J) ?_)
  rintro v h' ⟨rfl,(⟨Fa,qh,rfl⟩ | ⟨hn,rfl⟩)⟩
  ·skip
   refine zo rfl (eY rfl rfl) (zk 2 rfl (zo rfl (aV rfl rfl rfl (aS aI (s.aH (k:=8) rfl hX))) ?_))
   refine zd rfl (ag rfl rfl aL) ?_ ?_
   ·intro I
    have I:b.length≠512:=by simp at I; omega
    exact zk 8 rfl (WP.ret ⟨aa,_,rfl,.inr (.inl ⟨hd,fun q=>I q.2.2,rfl,J⟩)⟩)
   ·intro I
    have I:b.length=512:=by simp at I; omega
    refine zk 2 rfl (zv (zj rfl (WP.skip (zg rfl (zk 2 rfl (zc rfl (lj hT (J.ae [1]) hX hb) ?_))))))
    intro u h s
    obtain ⟨jR,_,cap,_,rfl,_⟩:=s.eo (by omega)
    have s:=s.gR
    have Sg:((n.toNat:Nat):Int)=n:=by omega
    refine zo rfl (cX rfl (by rw [Q1]; rfl)) ?_
    refine az.cr s rfl rfl rfl (ck Gv) (fun p7 h s => ?_)
    refine zS rfl (s.gQ (j:=0) rfl Gu rfl rfl) (fun h s => ?_)
    refine zk 5 rfl (zc rfl (uI hT (s.ae [3]) hf) ?_)
    rintro v h (⟨h0,rfl,s⟩ | ⟨h0,rfl,s⟩)
    ·skip
     obtain ⟨pg,wt,nw,lg,mk,tn,tl,ops,s⟩:=cu.1 s
     refine zo rfl (eY rfl rfl) (zk 6 rfl (zf rfl (KH _ _) ?_))
     refine zS rfl (by exact s.iw (k:=0) rfl QY rfl (by decide) rfl rfl) (fun h s => ?_)
     dsimp only [IP,V.cells,List.length_cons,List.length_nil,Nat.reduceAdd,aZ,bringA,List.take,List.drop,List.cons_append,List.nil_append,setA,List.set] at s
     refine zk 5 rfl (WP.ret ⟨aa,_,rfl,?_⟩)
     have s1:=s.ae [8,8,8]
     have s2:Sat h (yH _ (some (n.toNat,b))::_):=kI.2 ⟨_,kI.2 ⟨_,cS.2 (qa.2 ⟨rfl,by rw [Sg]; exact s1⟩)⟩⟩
     have s3:=(s2.del 8).ae [2,2,2,2,2,2,0,1,0]
     exact .inr (.inr (.inl ⟨hd,Fa,qh,I,h0,rfl,cu.2 ⟨_,_,_,_,_,_,_,_,s3⟩⟩))
    ·skip
     obtain ⟨pg,wt,nw,lg,mk,tn,tl,ops,s⟩:=cu.1 s
     dsimp only [Dk.gq] at s
     obtain ⟨cs,sw⟩:=uG.1 (s.ae [2])
     have s:=sw.ae [2,8,0,0]
     dsimp only [IP,V.cells,List.length_cons,List.length_nil,Nat.reduceAdd,aZ,bringA,List.take,List.drop,List.cons_append,List.nil_append,setA,getA] at s
     have J:=s
     have Sh:=(s.lC (j:=2) rfl).2.2
     refine zo rfl (eY rfl rfl) (zk 4 rfl (WP.drawn [some (0,3),some (0,2),some (0,2),some (0,2),some (0,2),ak,ak,ak,ak,ak,ak] rfl (by kernel_rfl) (by kernel_rfl) ?_))
     refine zM rfl (zM rfl (zN rfl (zF rfl (Av _ _) (zL rfl (s.ld (k:=0) rfl Gt rfl) (zL rfl (s.cP (k:=1) rfl Q0 Gu) ?_)))))
     obtain ⟨i1,jS,ie,uJ⟩:=Nr
     obtain ⟨sv,h1,e1,s1⟩:=kg (P:=Tryz.prog) (x:=.agg [.int .i64 n,.sl jR 0 b.length cap]) s Tryz.underlying146 Gv Gu rfl (by decide) (by decide) rfl rfl
     dsimp only [V.cells] at s1
     refine aB.any rfl rfl rfl rfl (OpR.of (R:=fun v h'=>v=sv∧h'=h1) (lR rfl e1) ⟨rfl,rfl⟩) ?_
     rintro v h' ⟨rfl,rfl⟩
     have j4:cs.length=δ.waiting.length*2:=by
      obtain ⟨a,b,q1,q2,q3⟩:=s.at (k:=3) rfl
      exact Np q3
     obtain ⟨U4,h2,e2,s2⟩:=gI (s1.ae [3,0]) Tryz.underlying146 jS Gv ie (by omega) rfl (by decide) (by simp only [V.cells,aQ,bF]; omega)
     dsimp only [aZ,bringA] at s2
     refine aB.any rfl rfl rfl rfl (OpR.of (R:=fun v h'=>v=U4∧h'=h2) (mL rfl rfl e2) ⟨rfl,rfl⟩) ?_
     rintro v h' ⟨rfl,rfl⟩
     have hv:=s2.lC (j:=0) rfl
     refine zN rfl (zF rfl (Av _ _) (aB.jG rfl rfl rfl (OpR.r7 rfl rfl rfl (s2.iw (k:=2) rfl QX rfl (by decide) hv.1 hv.2.1)) ?_))
     rintro v h ⟨rfl,s⟩
     dsimp only [Nat.reduceAdd,List.set,setA] at s
     refine aB.nil ⟨⟨fun _ _=>.inr ⟨rfl,⟨_,b_ rfl⟩,bT _ rfl⟩,fun _ _=>.inr ⟨rfl,⟨_,b_ rfl⟩,bT _ rfl⟩,fun _ _=>.inr ⟨rfl,⟨_,sP rfl⟩,bT _ rfl⟩,fun _ _=>.inr ⟨rfl,⟨_,ny rfl (Av _ _)⟩,bT _ rfl⟩,fo (.inr ⟨rfl,⟨_,aO rfl (J.ld (k:=0) rfl Gt rfl)⟩,Sh⟩) (.inr ⟨rfl,⟨_,aO rfl (s1.ld (k:=1) rfl Gt rfl)⟩,Sh⟩),aa,aa,aa,aa,aa,aa,aa⟩,?_⟩
     refine zw (WP.drawn [ak,ak,ak,ak,ak,ak,ak,ak] rfl (by kernel_rfl) (by kernel_rfl) ?_)
     refine zM rfl (zN rfl (zF rfl (EX _ _) (zL rfl (s.ld (k:=2) rfl lM rfl) (zM rfl (zF rfl (Nf _ _) (zL rfl (s.ld (k:=3) rfl bK rfl) (aB.jG rfl rfl rfl (OpR.mapUpdate rfl rfl rfl rfl (lT (f:=fun v b=>aq.cE v b) (x:=b) (fun _ _=>bn.cE _ _) (((s.ae [11]).dup (bn.cE _ _)).ae [0,7]) nY bN)) ?_)))))))
     intro v h s
     dsimp only [aZ,bringA] at s
     refine aB.nil ⟨⟨aa,aa,aa,aa,aa,aa,aa,aa,aa⟩,?_⟩
     refine zK 4 rfl (WP.ret ⟨aa,_,rfl,?_⟩)
     have s1:=(s.ae [1,5]).PN (x:=(n.toNat,b)) (by simp)
     rw [Sg] at s1
     have s2:=((uG.2 ⟨_,s1.ae [2,0]⟩).del 4).del 2
     exact .inr (.inr (.inr ⟨hd,Fa,qh,I,h0,rfl,cu.2 ⟨_,_,_,_,_,_,_,_,s2.ae [2,2,0,0,0,0,0,0,0]⟩⟩))
  ·skip
   exact zo rfl (eY rfl rfl) (zk 12 rfl (WP.ret ⟨aa,_,rfl,.inr (.inl ⟨hd,fun q=>hn ⟨q.1,q.2.1⟩,rfl,J⟩)⟩))
theorem Ns (J:W told)(s:Sat h (bp p δ::S))(hl:δ.log.length<1073741824): Call ⟨Tryz.prog,told⟩ 132 [.ptr p 0] h fun v h' =>
  (δ.dead=true∧v=.aX [.bu,.int .i64 9]∧Sat h' (bp p δ::S))∨(δ.dead=false∧∃b,v=.aX [b,.int .i64 0]∧Sat h' (aP b δ.log::bp p δ::S)):=by
 have s0:=s
 obtain ⟨pg,wt,nw,lg,mk,tn,tl,ops,s⟩:=cu.1 s
 refine Call.of_wp (J.free _ rfl) Tryz.func132 rfl rfl (zK 10 rfl (zf rfl (mo _ _) ?_))
 refine zd rfl (aO rfl (s.ld (k:=0) rfl m6 rfl)) ?_ ?_
 ·intro I
  exact zk 7 rfl (WP.ret ⟨aa,_,rfl,.inl ⟨I,rfl,s0⟩⟩)
 ·intro I
  refine zk 7 rfl (zf rfl (r8 _ _) (zl rfl (s.ld (k:=0) rfl bK rfl) (zc rfl (lj J (s.ae [4]) (aR _ _) hl) ?_)))
  intro v h s
  exact zk 3 rfl (WP.ret ⟨aa,_,rfl,.inr ⟨I,v,rfl,(cu.2 ⟨pg,wt,nw,lg,mk,tn,tl,ops,s.ae [2,2,2,2,1,1,1,1,0]⟩).ae [1]⟩⟩)
theorem GK (J:W told)(s:Sat h (bp p δ::S))(hl:δ.mark.length≤64): Call ⟨Tryz.prog,told⟩ 131 [.ptr p 0] h fun v h' =>
  (δ.dead=true∧v=.aX [.bu,.int .i64 9]∧Sat h' (bp p δ::S))∨(δ.dead=false∧∃b,v=.aX [b,.int .i64 0]∧Sat h' (aP b δ.mark::bp p δ::S)):=by
 have s0:=s
 obtain ⟨pg,wt,nw,lg,mk,tn,tl,ops,s⟩:=cu.1 s
 refine Call.of_wp (J.free _ rfl) Tryz.func131 rfl rfl (zK 10 rfl (zf rfl (mo _ _) ?_))
 refine zd rfl (aO rfl (s.ld (k:=0) rfl m6 rfl)) ?_ ?_
 ·intro I
  exact zk 7 rfl (WP.ret ⟨aa,_,rfl,.inl ⟨I,rfl,s0⟩⟩)
 ·intro I
  refine zk 7 rfl (zf rfl (Nd _ _) (zl rfl (s.ld (k:=0) rfl bK rfl) (zc rfl (lj J (s.ae [5]) (dZ _ _) (by omega)) ?_)))
  intro v h s
  exact zk 3 rfl (WP.ret ⟨aa,_,rfl,.inr ⟨I,v,rfl,(cu.2 ⟨pg,wt,nw,lg,mk,tn,tl,ops,s.ae [2,2,2,2,2,1,1,1,0]⟩).ae [1]⟩⟩)
def Dk.fresh (aW room:Nat): Dk:={ room:=room,aW:=List.replicate aW none,waiting:=[],now:=[],log:=[],dW:=0,mark:=[],bL := -1,dead:=false,AF:=none,tail:=[] }
theorem Nt : ∃i,Tryz.prog.info? 28=some i∧i.size=1∧i.bytes=24 :=
 ⟨_,(show Tryz.prog.info? 28=some ((Tryz.prog.info? 28).getD default) by kernel_rfl),by kernel_rfl,by kernel_rfl⟩
theorem D4 (v:V): ∀n:Nat,repeatL [v] n=List.replicate n v:=by
 intro n
 induction n with
 | zero=>rfl
 | succ n I=>simp only [repeatL,I,rD,gx,c5]
theorem IU {a b:PM}: ∀n:Nat,(each sn (List.replicate n .bu) (List.replicate n none)).p a b:=by
 intro n
 induction n with
 | zero=>trivial
 | succ n I=>exact ⟨rfl,I⟩
theorem KT (hT:W told){n m:Nat}(s:Sat h S)(hn:n<1073741824): Call ⟨Tryz.prog,told⟩ 88 [.int .i64 (n:Int),.int .i64 (m:Int)] h fun v h'=>∃p,v=.ptr p 0∧Sat h' (bp p (Dk.fresh n m)::S):=by
 refine Call.of_wp (hT.free _ rfl) Tryz.func88 rfl rfl (zK 8 rfl ?_)
 obtain ⟨i1,I,J,uJ⟩:=Nt
 obtain ⟨id,h1,e1,s1⟩:=A8 (P:=Tryz.prog) s fO I nA J (by omega) rfl (by decide) hn
 refine az.any rfl rfl rfl (OpR.of (R:=fun v h'=>v=.sl id 0 n (.exact n)∧h'=h1) (sQ rfl rfl e1) ⟨rfl,rfl⟩) ?_
 rintro v h ⟨rfl,rfl⟩
 have s:=s1
 dsimp only [V.cells] at s
 rw [c6,D4] at s
 refine az.Aq s rfl rfl rfl rfl (fun p8 h s => ?_)
 refine zo rfl (cX rfl (by rw [QZ]; rfl)) ?_
 refine az.cr s rfl rfl rfl (fC rfl rfl) (fun WZ h s => ?_)
 refine zk 2 rfl (WP.ret ⟨aa,_,rfl,?_⟩)
 have s:=(qg (f:=fun v b=>aq.cE v b) (s.ae [1]))
 have s:=s.qM.qM.CF
 have s:Sat _ (vV .bu []::_):=uG.2 ⟨[],(s.iP (φ:=True) aa).qc⟩
 have s:Sat _ (yH .cN none::_):=s.iP rfl
 have s:=s.ae [6,6]
 have hp:Sat _ (lJ (.sl id 0 n (.exact n)) (List.replicate n none)::_):=mS.2 ⟨id,List.replicate n .bu,by rw [eE],by
  rw [eE]
  exact (((s.ae [1]).iP (φ:=True) aa).jH fun a b _=>IU n).ae [1]⟩
 dsimp only [V.cells,List.take,List.length_cons,List.length_nil,Nat.reduceAdd,List.drop,List.cons_append,List.nil_append,aZ,bringA,getA] at hp
 exact ⟨_,rfl,cu.2 ⟨_,_,_,_,_,_,_,_,hp.ae [1,0,1,4,1,1,0,0]⟩⟩
theorem Nu (hT:W told){n m:Int}(s:Sat h S): Call ⟨Tryz.prog,told⟩ 70 [.int .i64 n,.int .i64 m] h fun v h' =>
  (¬(1≤n∧n≤65536∧0≤m∧m≤16777216)∧v=.aX [.cN,.int .i64 1]∧Sat h' S) ∨
  (1≤n∧n≤65536∧0≤m∧m≤16777216∧∃p,v=.aX [.ptr p 0,.int .i64 0]∧Sat h' (bp p (Dk.fresh n.toNat m.toNat)::S)):=by
 refine Call.of_wp (hT.free _ rfl) Tryz.func70 rfl rfl (zK 9 rfl ?_)
 refine zd rfl (ag rfl rfl bf) ?_ ?_
 ·intro hq
  have hq:n<1:=by simpa using hq
  exact zk 19 rfl (WP.ret ⟨aa,_,rfl,.inl ⟨fun q=>by omega,rfl,s⟩⟩)
 ·intro hq
  have hq:1≤n:=by simpa using hq
  refine zk 2 rfl ?_
  refine zd rfl (ag rfl rfl fY) ?_ ?_
  ·intro I
   have I:65536<n:=by simpa using I
   exact zk 16 rfl (WP.ret ⟨aa,_,rfl,.inl ⟨fun q=>by omega,rfl,s⟩⟩)
  ·intro I
   have I:n≤65536:=by simpa using I
   refine zk 3 rfl ?_
   refine zd rfl (ag rfl rfl bf) ?_ ?_
   ·intro J
    have J:m<0:=by simpa using J
    exact zk 12 rfl (WP.ret ⟨aa,_,rfl,.inl ⟨fun q=>by omega,rfl,s⟩⟩)
   ·intro J
    have J:0≤m:=by simpa using J
    refine zk 3 rfl ?_
    refine zd rfl (ag rfl rfl fY) ?_ ?_
    ·intro mw
     have mw:16777216<m:=by simpa using mw
     exact zk 8 rfl (WP.ret ⟨aa,_,rfl,.inl ⟨fun q=>by omega,rfl,s⟩⟩)
    ·intro mw
     have mw:m≤16777216:=by simpa using mw
     refine zk 8 rfl ?_
     obtain ⟨n,rfl⟩:∃k:Nat,n=k:=⟨n.toNat,by omega⟩
     obtain ⟨m,rfl⟩:∃k:Nat,m=k:=⟨m.toNat,by omega⟩
     refine zc rfl (KT hT s (by omega)) ?_
     rintro v h ⟨p,rfl,s⟩
     exact zk 3 rfl (WP.ret ⟨aa,_,rfl,.inr ⟨hq,I,J,mw,p,rfl,s⟩⟩)
end
def leN : List Nat→Nat
 | []=>0
 | b::l=>b+256*leN l
theorem KU : ∀(l:List Nat) (b:Nat),leN (l++[b])=leN l+b*256^l.length:=by
 intro l
 induction l with
 | nil=>intro b; simp [leN]
 | cons x l I=>intro b; simp only [gx,leN,I,aQ,rQ,Nat.mul_add]; rw [←iA,rP (256^l.length) 256,←Nat.mul_assoc b,rP b 256,Nat.mul_assoc 256 b]
theorem CP : ∀(l:List Nat),(∀b∈l,b<256)→leN l<256^l.length:=by
 intro l
 induction l with
 | nil=>intro _; simp [leN]
 | cons x l I =>
  intro h
  have h1:=I (fun b J=>h b (cC _ J))
  have h2:=h x cM
  simp only [leN,aQ,rQ]
  omega
theorem CQ (i:Nat): (256:Nat)^i=2^(8*i):=by rw [Nat.pow_mul]
theorem TE {P:Program}{h:H}{t:TypeId}{x y:Operand}{d i:Nat}(hd:d<256)(hi:i≤7): binV P h .shl t x y (.int .u64 (d:Int)) (.int .i64 (8*(i:Int)))=some (.int .u64 ((d*256^i:Nat):Int)):=by
 have J:(256:Nat)^i≤256^7:=vi (by omega) hi
 have I:d*256^i<18446744073709551616:=by
  have:d*256^i≤255*256^7:=vn (by omega) J
  omega
 simp only [binV,shiftV,IntKind.bits]
 have e:(8*(i:Int)).toNat=8*i:=by omega
 rw [e,show min (8*i) 64=8*i by omega,show decide (8*(i:Int)<0)=false by simp; omega,ay]
 have:(d:Int)*2^(8*i)=((d*256^i:Nat):Int):=by rw [CQ]; push_cast; rfl
 simp only [this,wrap_u64 I]
theorem U5 {P:Program}{h:H}{t:TypeId}{x y:Operand}{a d i:Nat}(I:a<256^i)(hd:d<256)(hi:i≤7): binV P h .or t x y (.int .u64 (a:Int)) (.int .u64 ((d*256^i:Nat):Int))=some (.int .u64 ((a+d*256^i:Nat):Int)):=by
 have J:(256:Nat)^i≤256^7:=vi (by omega) hi
 have hm:d*256^i≤255*256^7:=vn (by omega) J
 have h1:((a:Int)%(2^(IntKind.u64).bits:Int)).toNat=a:=by simp only [IntKind.bits]; omega
 have h2:(((d*256^i:Nat):Int)%(2^(IntKind.u64).bits:Int)).toNat=d*256^i:=by simp only [IntKind.bits]; omega
 have h3:Nat.lor a (d*256^i)=a+d*256^i:=by
  have e:d*256^i=2^(8*i)*d:=by rw [←CQ,rP]
  have:=Nat.two_pow_add_eq_or_of_lt (i:=8*i) (b:=a) (by rw [←CQ]; exact I) d
  rw [←e] at this
  rw [vr a,this]
  exact Nat.or_comm _ _
 simp only [binV,ikBeq,af,intV,bitsV,h1,h2,h3]
 rw [wrap_u64 (by omega)]
section
variable {told:cK} {h:H} {S:List aq} {X:aq} {k:Nat} {v:V} {l:List Nat}
noncomputable def U6 : Code:=gr [1,1,0,1,0,0] ((Tryz.f86.body).getD .skip)
theorem IV (hv:View h v l)(hl:l.length≤8): ∀(j i:Nat) (E:List (Nat×V)) (Q:Ex→List (Nat×V)→H→Prop),i+j=l.length →
  Has E [(3,.int .u64 (leN (l.take i))),(6,v),(7,.int .i64 l.length),(8,.int .i64 i)]→(∀E',look E' 3=some (.int .u64 (leN l))→Q (.exit 0) E' h)→WP ⟨Tryz.prog,told⟩ 22 (.loop U6) E h Q:=by
 intro j
 induction j with
 | zero =>
  intro i E Q hi hE hq
  refine WP.loop (WP.has hE (zg rfl (zh rfl (ag rfl rfl bf) (by simp; omega) ?_)))
  refine zk 3 rfl (WP.exit (hq _ ?_))
  rw [eD (by omega)]
  rfl
 | succ j ih =>
  intro i E Q hi hE hq
  have J:l[i]?=some (l[i]'(by omega)):=aY _
  generalize EF:(l[i]'(by omega))=b at J
  have I:b<256:=hv.1 b (bh J)
  obtain ⟨id,off,e1,e2⟩:=eB hv J
  have ht:l.take (i+1)=l.take i++[b]:=by rw [zH,J]; rfl
  have bk:leN (l.take i)<256^i:=by
   have:=CP (l.take i) (fun x hx=>hv.1 x (fH hx))
   rwa [fc,lZ (by omega)] at this
  refine WP.loop (WP.has hE (zg rfl (zt rfl (ag rfl rfl bf) (by simp; omega) ?_)))
  refine zk 5 rfl (WP.block (zK 3 rfl (zo rfl (dm (r:=.ptr id off) rfl rfl e1) (zl rfl e2 (zk 6 rfl (zo rfl (cH rfl (by exact jQ Tryz.underlying5 cZ (fX (by omega) (by omega)))) ?_))))))
  refine zm rfl (zb rfl (by exact jW (aC (by omega) (by omega))) ?_)
  refine zb rfl (TE I (by omega)) ?_
  refine zb rfl (U5 bk I (by omega)) ?_
  refine za rfl (zv (zr rfl (zb rfl (by exact bB (aC (by omega) (by omega))) ?_)))
  refine zm rfl (zv ?_)
  refine ih (i+1) _ _ (by omega) ?_ hq
  rw [ht,KU,fc,lZ (by omega)]
  exact ⟨rfl,rfl,rfl,rfl,aa⟩
theorem Fb (hT:W told)(s:Sat h S)(hk:getA S k=some X)(hX:cI X (cL v l))(hl:l.length≤8): Call ⟨Tryz.prog,told⟩ 86 [v] h fun r h'=>r=.int .u64 (leN l)∧h'=h:=by
 have J:=s.aH hk hX
 refine Call.of_wp (hT.free _ rfl) Tryz.func86 rfl rfl (zK 12 rfl (zo rfl (aV rfl rfl rfl (aS aI J)) (zk 2 rfl (WP.block ?_))))
 refine IV J hl l.length 0 _ _ (by omega) ⟨rfl,rfl,rfl,rfl,aa⟩ (fun E' I => ?_)
 exact WP.has (F:=[(3,.int .u64 (leN l))]) ⟨I,aa⟩ (zK 5 rfl (WP.ret ⟨aa,_,rfl,rfl,rfl⟩))
theorem Mp (I:W told)(s:Sat h S)(J:getA S k=some X)(hX:cI X (cL v l))(hl:l.length≤4611686018427387904): Call ⟨Tryz.prog,told⟩ 171 [v] h fun r h'=>r=.int .u32 (uH 0 l:Nat)∧h'=h:=by
 refine Call.of_wp (I.free _ rfl) Tryz.func171 rfl rfl (zK 7 rfl (zc rfl (Nq (s:=0) I s J hX (by decide) hl) ?_))
 rintro v h' ⟨rfl,rfl⟩
 exact zk 2 rfl (WP.ret ⟨aa,_,rfl,rfl,rfl⟩)
def cF (l:List Nat)(a z:Nat): Nat:=leN ((l.take (a+z)).drop a)
theorem qi (hT:W told){a z:Int}(s:Sat h S)(J:getA S k=some X)(hX:cI X (cL v l))(ha:0≤a)(hz:1≤z)(Fc:z≤7)(hl:a+z≤l.length)(je:l.length≤65536):
  Call ⟨Tryz.prog,told⟩ 154 [.agg [v],.int .i64 a,.int .i64 z] h fun r h'=>r=.int .i64 (cF l a.toNat z.toNat)∧Sat h' S:=by
 have hv:=s.aH J hX
 obtain ⟨pi,po,pc,rfl⟩:=gD hv (by omega)
 refine Call.of_wp (hT.free _ rfl) Tryz.func154 rfl rfl (zg rfl ?_)
 refine az.cr s rfl rfl rfl (fC rfl rfl) (fun p3 h s => ?_)
 refine zk 4 rfl (zf rfl (fg _ _) (zl rfl (s.ld (k:=0) rfl bK rfl) (zk 3 rfl (zb rfl (by exact bB (aC (by omega) (by omega))) ?_))))
 refine zk 2 rfl (zb rfl (by exact bB (aC (by omega) (by omega))) ?_)
 have kr:=wI (s.aH (ke J) hX) (a:=a.toNat) (b:=(a+z).toNat) (c:=(a+z).toNat) (by omega) (by omega) (by omega) (by omega)
 refine zo rfl (ff (p:=some (.int .i64 a)) (q:=some (.int .i64 (a+z))) (m:=some (.int .i64 (a+z))) rfl rfl rfl rfl (eV ha) (eV (by omega)) (eV (by omega)) kr) ?_
 have hlen:((l.take (a+z).toNat).drop a.toNat).length=z.toNat:=by simp; omega
 refine zc rfl (Fb hT s (ke J) (A9 hX (a:=a.toNat) (b:=(a+z).toNat) (c:=(a+z).toNat) (by omega) (by omega) (by omega) (by omega)) (by omega)) ?_
 rintro r h' ⟨rfl,rfl⟩
 have I:=CP ((l.take (a+z).toNat).drop a.toNat) (fun x hx=>hv.1 x (fH (gw hx)))
 have hp:256^z.toNat≤256^7:=vi (by omega) (by omega)
 rw [hlen] at I
 have e:(a+z).toNat=a.toNat+z.toNat:=by omega
 rw [e] at I ⊢
 refine zo rfl (cH rfl (by exact jQ cZ bN (aC (by omega) (by omega)))) ?_
 exact zk 2 rfl (WP.ret ⟨aa,_,rfl,rfl,s.drop⟩)
theorem yI {a z:Nat}(I:∀b∈l,b<256): cF l a z<256^z:=by
 have:=CP ((l.take (a+z)).drop a) (fun x J=>I x (fH (gw J)))
 have h2:((l.take (a+z)).drop a).length≤z:=by simp; omega
 exact gi this (vi (by omega) h2)
def iQ (l:List Nat): Nat:=cF l 14 2
def fZ (l:List Nat): Nat:=cF l 16 2
def cD (l:List Nat)(i:Nat): Nat:=cF l (26+4*i) 2
def f_ (l:List Nat)(i:Nat): Nat:=cF l (26+4*i+2) 2
theorem jk (I:W told)(s:Sat h S)(J:getA S k=some X)(hX:cI X (cL v l))(hl:l.length=512):
  Call ⟨Tryz.prog,told⟩ 101 [.agg [v]] h fun r h'=>r=.int .i64 (iQ l)∧Sat h' S:=by
 have hv:=s.aH J hX
 obtain ⟨pi,po,pc,rfl⟩:=gD hv (by omega)
 refine Call.of_wp (I.free _ rfl) Tryz.func101 rfl rfl (zg rfl ?_)
 refine az.cr s rfl rfl rfl (fC rfl rfl) (fun p1 h s => ?_)
 refine zk 4 rfl (zl rfl (s.cP (k:=0) rfl bO a_) (zc rfl (qi I s (ke J) hX (by decide) (by decide) (by decide) (by omega) (by omega)) ?_))
 rintro r h' ⟨rfl,s⟩
 exact zk 2 rfl (WP.ret ⟨aa,_,rfl,rfl,s.drop⟩)
theorem CR (I:W told)(s:Sat h S)(J:getA S k=some X)(hX:cI X (cL v l))(hl:l.length=512):
  Call ⟨Tryz.prog,told⟩ 156 [.agg [v]] h fun r h'=>r=.int .i64 (fZ l)∧Sat h' S:=by
 have hv:=s.aH J hX
 obtain ⟨pi,po,pc,rfl⟩:=gD hv (by omega)
 refine Call.of_wp (I.free _ rfl) Tryz.func156 rfl rfl (zg rfl ?_)
 refine az.cr s rfl rfl rfl (fC rfl rfl) (fun p1 h s => ?_)
 refine zk 4 rfl (zl rfl (s.cP (k:=0) rfl bO a_) (zc rfl (qi I s (ke J) hX (by decide) (by decide) (by decide) (by omega) (by omega)) ?_))
 rintro r h' ⟨rfl,s⟩
 exact zk 2 rfl (WP.ret ⟨aa,_,rfl,rfl,s.drop⟩)
end
def tE (t:List Bool): List V:=t.map V.bool
theorem Nv (t:List Bool)(k:Nat)(b:Bool): (tE t).set k (.bool b)=tE (t.set k b):=by simp [tE,List.map_set]
theorem Fe {t:List Bool}{k:Nat}(I:k<t.length): nth (tE t) k=some (.bool (t.getD k false)):=by
 rw [fh]; simp [tE,aY I]
theorem KV : zeroT Tryz.prog 227=some (.agg (tE (List.replicate 512 false))):=by kernel_rfl
def markL : Nat→Nat→List Bool→Option (List Bool)
 | 0,_,t=>some t
 | n+1,k,t=>if t.getD k false then none else markL n (k+1) (t.set k true)
def cellsL (l:List Nat)(low:Nat): Nat→Nat→List Bool→Bool
 | 0,_,_=>true
 | n+1,i,t=>if cD l i<low∨512<cD l i+f_ l i then false else match markL (f_ l i) (cD l i) t with
  | none=>false
  | some t'=>cellsL l low n (i+1) t'
def bP (l:List Nat): Bool:=decide (l.length=512)&&(decide (l.getD 13 0=0)&&(decide (26+4*iQ l≤fZ l∧fZ l≤512)&&cellsL l (fZ l) (iQ l) 0 (List.replicate 512 false)))
theorem IW : ∀(n k:Nat) (t t':List Bool),markL n k t=some t'→t'.length=t.length:=by
 intro n
 induction n with
 | zero=>intro k t t' h; simp only [markL] at h; injection h with h; subst h; rfl
 | succ n I =>
  intro k t t' h
  simp only [markL] at h
  split at h
  ·cases h
  ·have:=I _ _ _ h; simpa using this
section
variable {told:cK} {h:H} {S:List aq} {X:aq} {k:Nat} {v:V} {l:List Nat}
theorem vW (I:W told){i:Nat}(s:Sat h S)(J:getA S k=some X)(hX:cI X (cL v l))(hl:l.length=512)(hi:30+4*i≤512):
  Call ⟨Tryz.prog,told⟩ 155 [.agg [v],.int .i64 (i:Int)] h fun r h'=>r=.aX [.int .i64 (cD l i),.int .i64 (f_ l i)]∧Sat h' S:=by
 have hv:=s.aH J hX
 obtain ⟨pi,po,pc,rfl⟩:=gD hv (by omega)
 have e1:(26+4*(i:Int)).toNat=26+4*i:=by omega
 have e2:(26+4*(i:Int)+2).toNat=26+4*i+2:=by omega
 refine Call.of_wp (I.free _ rfl) Tryz.func155 rfl rfl (zg rfl ?_)
 refine az.cr s rfl rfl rfl (fC rfl rfl) (fun p2 h s => ?_)
 refine zk 6 rfl (zb rfl (by exact jW (aC (by omega) (by omega))) ?_)
 refine zb rfl (by exact bB (aC (by omega) (by omega))) ?_
 refine zk 3 rfl ?_
 have s0:=s
 refine WP.drawn [ak,ak,ak,some (0,2),some (0,2),some (0,2),ak,ak,ak] rfl (by kernel_rfl) (by kernel_rfl) ?_
 refine zL rfl (s.cP (k:=0) rfl bO a_) (zM rfl (aB.any rfl rfl rfl rfl (OpR.call rfl rfl rfl rfl (qi I s (ke J) hX (by omega) (by decide) (by decide) (by omega) (by omega))) ?_))
 rintro r h' ⟨rfl,s⟩
 rw [e1]
 have s1:=s
 refine zL rfl (s.cP (k:=0) rfl bO a_) (zM rfl (zO rfl (ag rfl rfl (by exact bB (aC (by omega) (by omega)))) ?_))
 refine aB.any rfl rfl rfl rfl (OpR.call rfl rfl rfl rfl (qi I s (ke J) hX (by omega) (by decide) (by decide) (by omega) (by omega))) ?_
 rintro r h' ⟨rfl,s⟩
 rw [e2]
 refine zA rfl (zA rfl ?_)
 refine aB.nil ⟨⟨aa,aa,aa,fo (.inr ⟨rfl,⟨_,aO rfl (s0.cP (k:=0) rfl bO a_)⟩,bT _ rfl⟩) (.inr ⟨rfl,⟨_,aO rfl (s1.cP (k:=0) rfl bO a_)⟩,bT _ rfl⟩),fun _ _=>.inr ⟨rfl,⟨_,b_ rfl⟩,bT _ rfl⟩,fun _ _=>.inr ⟨rfl,⟨_,ag rfl rfl (by exact bB (aC (by omega) (by omega)))⟩,bT _ rfl⟩,aa,aa,aa,aa⟩,?_⟩
 refine WP.ret ⟨aa,_,rfl,?_⟩
 exact ⟨rfl,s.drop⟩
noncomputable def U7 : Code:=gr [1,1,1,1,1,1,0,1,0,0] ((Tryz.f107.body).getD .skip)
noncomputable def U8 : Code:=gr [1,1,1,1,1,1,0,1,0,0,1,1,0,0,1,1,1,1,0,0] ((Tryz.f107.body).getD .skip)
theorem GL {p6 a z:Nat}{v3 v4 v5 v35 v36:V}(W3:a+z≤512): ∀(m q:Nat) (t:List Bool) (h:H) (E:List (Nat×V)) (Q:Ex→List (Nat×V)→H→Prop),q+m=a+z→t.length=512 →
  Sat h (pt p6 (.cells 512 (tE t) false)::S)→Has E [(3,v3),(4,v4),(5,v5),(6,.ptr p6 0),(8,.int .i64 (a:Int)),(9,.int .i64 (z:Int)),(10,.int .i64 (q:Int)),(35,v35),(36,v36)] →
  (markL m q t=none→∀E' h',look E' 2=some (.bool false)→Sat h' S→Q .ret E' h') →
  (∀t' E' h',markL m q t=some t'→Has E' [(3,v3),(4,v4),(5,v5),(6,.ptr p6 0),(35,v35),(36,v36)]→Sat h' (pt p6 (.cells 512 (tE t') false)::S)→Q (.exit 2) E' h') →
  WP ⟨Tryz.prog,told⟩ 68 (.loop U8) E h Q:=by
 intro m
 induction m with
 | zero =>
  intro q t h E Q hq ht s hE J hx
  refine WP.loop (WP.has hE (zK 6 rfl (zb rfl (by exact bB (aC (by omega) (by omega))) ?_)))
  refine zh rfl (ag rfl rfl bf) (by simp; omega) ?_
  exact zk 2 rfl (WP.exit (hx t _ _ rfl ⟨rfl,rfl,rfl,rfl,rfl,rfl,aa⟩ s))
 | succ m ih =>
  intro q t h E Q hq ht s hE J hx
  have I:q<t.length:=by omega
  refine WP.loop (WP.has hE (zK 6 rfl (zb rfl (by exact bB (aC (by omega) (by omega))) ?_)))
  refine zt rfl (ag rfl rfl bf) (by simp; omega) ?_
  refine zk 4 rfl (WP.block (zK 4 rfl (zo rfl (dm (r:=.ptr p6 q) rfl rfl (by rw [Mf,show (decide ((0:Int)≤(q:Int))&&decide ((q:Int)<((512:Nat):Int)))=true by simp; omega,af]; simp)) ?_)))
  cases hm:t.getD q false with
  | true =>
   refine zt rfl (aO rfl (s.ld (k:=0) rfl m6 (Fe I))) (hm) (zk 6 rfl (WP.ret ?_))
   refine J ?_ _ _ rfl s.drop
   rw [markL,ax hm]
  | false =>
   refine zh rfl (aO rfl (s.ld (k:=0) rfl m6 (Fe I))) (hm) (zk 5 rfl (zo rfl (dm (r:=.ptr p6 q) rfl rfl (by rw [Mf,show (decide ((0:Int)≤(q:Int))&&decide ((q:Int)<((512:Nat):Int)))=true by simp; omega,af]; simp)) ?_))
   refine zS rfl (s.iw (k:=0) rfl wG (by simp [tE,ht]) (by omega) rfl rfl) ?_
   intro h s
   dsimp only [setA] at s
   rw [Nv] at s
   refine zv (zr rfl (zm rfl (zb rfl (by exact bB (aC (by omega) (by omega))) ?_)))
   refine za rfl (zv ?_)
   have e:markL (m+1) q t=markL m (q+1) (t.set q true):=by rw [markL,ai (by rw [hm]; decide)]
   rw [e] at J hx
   exact ih (q+1) (t.set q true) h _ Q (by omega) (by simp [ht]) s ⟨rfl,rfl,rfl,rfl,rfl,rfl,rfl,rfl,rfl,aa⟩ J hx
theorem GM (hT:W told){p6 p3:Nat}{n low:Nat}{x:V}(hX:cI X (cL x l))(hl:l.length=512)(bk:∀b∈l,b<256)(EP:x.cells=[x])(W4:storable x=true)(hn:n=iQ l)(uK:26+4*n≤low)(Wi:low≤512): ∀(m i:Nat) (t:List Bool) (h:H) (E:List (Nat×V)) (Q:Ex→List (Nat×V)→H→Prop),i+m=n→t.length=512 →
  Sat h (pt p6 (.cells 512 (tE t) false)::pt p3 (.cells 1 [x] false)::X::S)→Has E [(3,.ptr p3 0),(4,.int .i64 (n:Int)),(5,.int .i64 (low:Int)),(6,.ptr p6 0),(35,.int .i64 (n:Int)),(36,.int .i64 (i:Int))] →
  (cellsL l low m i t=false→∀E' h',look E' 2=some (.bool false)→Sat h' (X::S)→Q .ret E' h') →
  (cellsL l low m i t=true→∀E' h',Sat h' (X::S)→Q (.exit 0) E' h') →
  WP ⟨Tryz.prog,told⟩ 68 (.loop U7) E h Q:=by
 intro m
 induction m with
 | zero =>
  intro i t h E Q hi ht s hE J hx
  refine WP.loop (WP.has hE (zg rfl (zh rfl (ag rfl rfl bf) (by simp; omega) ?_)))
  exact zk 3 rfl (WP.exit (hx rfl _ _ s.drop.drop))
 | succ m ih =>
  intro i t h E Q hi ht s hE J hx
  have hf:=yI (l:=l) (a:=26+4*i) (z:=2) bk
  have hz:=yI (l:=l) (a:=26+4*i+2) (z:=2) bk
  have ef:cD l i=cF l (26+4*i) 2:=rfl
  have ez:f_ l i=cF l (26+4*i+2) 2:=rfl
  refine WP.loop (WP.has hE (zg rfl (zt rfl (ag rfl rfl bf) (by simp; omega) ?_)))
  refine zk 5 rfl (WP.block (zK 7 rfl (zl rfl (s.cP (k:=1) rfl bO a_) (zm rfl (zc rfl (vW (i:=i) hT s (k:=2) rfl hX hl (by omega)) ?_)))))
  rintro r h' ⟨rfl,s⟩
  refine zk 11 rfl ?_
  refine zd rfl (ag rfl rfl bf) ?_ ?_
  ·intro hq
   have hq:cD l i<low:=by simp at hq; omega
   refine zk 12 rfl (WP.ret ?_)
   refine J ?_ _ _ rfl s.drop.drop
   rw [cellsL,ax (.inl hq)]
  ·intro hq
   have hq:low≤cD l i:=by simp at hq; omega
   refine zk 3 rfl (zb rfl (by exact bB (aC (by omega) (by omega))) ?_)
   refine zd rfl (ag rfl rfl fY) ?_ ?_
   ·intro I
    have I:512<cD l i+f_ l i:=by simp at I; omega
    refine zk 7 rfl (WP.ret ?_)
    refine J ?_ _ _ rfl s.drop.drop
    rw [cellsL,ax (.inr I)]
   ·intro I
    have I:cD l i+f_ l i≤512:=by simp at I; omega
    refine zk 9 rfl (WP.block ?_)
    have e:cellsL l low (m+1) i t=(match markL (f_ l i) (cD l i) t with | none=>false | some t'=>cellsL l low m (i+1) t'):=by rw [cellsL,ai (by omega)]
    rw [e] at J hx
    refine GL I (f_ l i) (cD l i) t _ _ _ rfl ht s ⟨rfl,rfl,rfl,rfl,rfl,rfl,rfl,rfl,rfl,aa⟩ (fun hm E' h' h2 s' => ?_) (fun t' E' h' hm kK s' => ?_)
    ·rw [hm] at J
     exact J rfl _ _ h2 s'.drop
    ·rw [hm] at J hx
     refine WP.has kK (zr rfl (zb rfl (by exact bB (aC (by omega) (by omega))) ?_))
     refine zm rfl (zv ?_)
     exact ih (i+1) t' h' _ Q (by omega) (by rw [IW _ _ _ _ hm,ht]) s' ⟨rfl,rfl,rfl,rfl,rfl,rfl,aa⟩ J hx
theorem Ff (hT:W told)(s:Sat h (X::S))(hX:cI X (cL v l))(je:l.length<9223372036854775808):
  Call ⟨Tryz.prog,told⟩ 107 [v] h fun r h'=>r=.bool (bP l)∧Sat h' (X::S):=by
 have hv:=s.aH (k:=0) rfl hX
 refine Call.of_wp (hT.free _ rfl) Tryz.func107 rfl rfl (zK 8 rfl (zo rfl (aV rfl rfl rfl (aS aI (s.aH (k:=0) rfl hX))) ?_))
 refine zd rfl (ag rfl rfl aL) ?_ ?_
 ·intro hq
  have hq:l.length≠512:=by simp at hq; omega
  exact zk 12 rfl (WP.ret ⟨aa,_,rfl,by rw [bP,dJ hq,fK],s⟩)
 ·intro hq
  have hq:l.length=512:=by simp at hq; omega
  have hb:l[13]?=some (l[13]'(by omega)):=aY _
  generalize EF:(l[13]'(by omega))=b at hb
  have nZ:l.getD 13 0=b:=by rw [ei,hb]; rfl
  obtain ⟨id,off,e1,e2⟩:=eB hv hb
  refine zk 2 rfl (zo rfl (dm (r:=.ptr id off) rfl rfl e1) (zl rfl e2 ?_))
  refine zd rfl (ag rfl rfl aL) ?_ ?_
  ·intro I
   have I:b≠0:=by simp at I; omega
   exact zk 7 rfl (WP.ret ⟨aa,_,rfl,by rw [bP,dr hq,nZ,dJ I,fK,zZ],s⟩)
  ·intro I
   have I:b=0:=by simp at I; omega
   obtain ⟨pi,po,pc,rfl⟩:=gD hv (by omega)
   refine zk 7 rfl (zo rfl (cX rfl (by rw [vM]; rfl)) ?_)
   refine az.cr s rfl rfl rfl (ck ik) (fun p3 h s => ?_)
   refine zS rfl (s.gQ (j:=0) rfl a_ rfl rfl) (fun h s => ?_)
   refine zk 2 rfl ?_
   have s0:=s
   refine WP.drawn [none,none,some (0,2),ak,ak,ak] rfl (by kernel_rfl) (by kernel_rfl) ?_
   refine zL rfl (s.cP (k:=0) rfl bO a_) (aB.any rfl rfl rfl rfl (OpR.call rfl rfl rfl rfl (jk hT s (k:=1) rfl hX hq)) ?_)
   rintro r h' ⟨rfl,s⟩
   have s1:=s
   refine zL rfl (s.cP (k:=0) rfl bO a_) (aB.any rfl rfl rfl rfl (OpR.call rfl rfl rfl rfl (CR hT s (k:=1) rfl hX hq)) ?_)
   rintro r h' ⟨rfl,s⟩
   refine zA rfl (zA rfl ?_)
   refine aB.nil ⟨⟨aa,aa,fo (.inr ⟨rfl,⟨_,aO rfl (s0.cP (k:=0) rfl bO a_)⟩,bT _ rfl⟩) (.inr ⟨rfl,⟨_,aO rfl (s1.cP (k:=0) rfl bO a_)⟩,bT _ rfl⟩),aa,aa,aa,aa⟩,?_⟩
   have tA:=yI (l:=l) (a:=14) (z:=2) hv.1
   have m5:=yI (l:=l) (a:=16) (z:=2) hv.1
   have ec:iQ l=cF l 14 2:=rfl
   have el:fZ l=cF l 16 2:=rfl
   refine zK 4 rfl (zb rfl (by exact jW (aC (by omega) (by omega))) ?_)
   refine zb rfl (by exact bB (aC (by omega) (by omega))) ?_
   refine zm rfl ?_
   refine zd rfl (ag rfl rfl fY) ?_ ?_
   ·intro J
    have J:fZ l<26+4*iQ l:=by simp at J; omega
    exact zk 10 rfl (WP.ret ⟨aa,_,rfl,by rw [bP,dr hq,nZ,dr I,dJ (by omega:¬(26+4*iQ l≤fZ l∧fZ l≤512))]; rfl,s.drop⟩)
   ·intro J
    have J:26+4*iQ l≤fZ l:=by simp at J; omega
    refine zk 2 rfl ?_
    refine zd rfl (ag rfl rfl fY) ?_ ?_
    ·intro mw
     have mw:512<fZ l:=by simp at mw; omega
     exact zk 7 rfl (WP.ret ⟨aa,_,rfl,by rw [bP,dr hq,nZ,dr I,dJ (by omega:¬(26+4*iQ l≤fZ l∧fZ l≤512))]; rfl,s.drop⟩)
    ·intro mw
     have mw:fZ l≤512:=by simp at mw; omega
     refine zk 6 rfl (az.cr s rfl rfl rfl (ck KV) ?_)
     intro p6 h s
     have rW:(tE (List.replicate 512 false)).length=512:=by rw [tE,eP,eE]
     dsimp only [V.cells] at s
     rw [rW] at s
     refine zk 7 rfl (WP.block ?_)
     have hg:bP l=cellsL l (fZ l) (iQ l) 0 (List.replicate 512 false):=by
      rw [bP,dr hq,nZ,dr I,dr (⟨J,mw⟩:26+4*iQ l≤fZ l∧fZ l≤512)]; rfl
     refine GM hT hX hq hv.1 rfl rfl rfl J mw (iQ l) 0 (List.replicate 512 false) _ _ _ (by omega) eE s ⟨rfl,rfl,rfl,rfl,rfl,rfl,aa⟩ (fun hc E' h' h2 s' => ?_) (fun hc E' h' s' => ?_)
     ·rw [hg,hc]
      exact ⟨aa,_,Cw h2,rfl,s'⟩
     ·rw [hg,hc]
      exact WP.has (F:=[]) aa (zK 4 rfl (WP.ret ⟨aa,_,rfl,rfl,s'⟩))
end
end Go.Proofs.YtefepnnfphdkpaaGreat.Am
