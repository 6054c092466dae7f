/- ChainFull: a part of its proof; conditions: its statement's. -/
import Derived.Test.YtefepnnfphdkpaaGreatD18
namespace Go.Proofs.YtefepnnfphdkpaaGreat.Am
open Go
section
variable {told:cz} {h:H} {S:List aq} {X:aq} {p:Nat} {δ:Dk}
def Dk.wr (δ:Dk)(n:Int)(b:List Nat): Dk:={ δ.fV with waiting:=δ.waiting++[(n.toNat,b)],now:=dc n b δ.now }
theorem PG : ∃i,Tryz.prog.info? 151=some i∧i.size=2∧i.bytes=32 :=
 ⟨_,(show Tryz.prog.info? 151=some ((Tryz.prog.info? 151).getD default) by kernel_rfl),by kernel_rfl,by kernel_rfl⟩
theorem Sat.R9 {cs:List V}{m:List Wr}{u:V}{x:Wr}(s:Sat h (.cy u x.2::Av cs m::S))(hu:u≠.bn): Sat h (Av (cs++[.int .i64 (x.1:Int),u]) (m++[x])::S) :=
 s.two (aQ.cy _ _) (aQ.wr _ _) fun _ _ I J=>PD J hu I
theorem Ks (hT:W told){n:Int}{x:V}{b:List Nat}(s:Sat h (bz p δ::X::S))(hX:cT X (cY x b))(hb:b.length<1073741824)(hf:δ.bS<4294967296)(hw:δ.waiting.length≤268435456):
  Call ⟨Tryz.prog,told⟩ 138 [.ptr p 0,.int .i64 n,x] h fun v h' =>
  (δ.dead=true∧v=.int .i64 9∧Sat h' (bz p δ::X::S)) ∨
  (δ.dead=false∧¬(0≤n∧n<δ.bh.length∧b.length=512)∧v=.int .i64 1∧Sat h' (bz p δ::X::S)) ∨
  (δ.dead=false∧0≤n∧n<δ.bh.length∧b.length=512∧δ.bS=0∧v=.int .i64 9∧Sat h' (bz p { δ.die with BR:=some (n.toNat,b) }::X::S)) ∨
  (δ.dead=false∧0≤n∧n<δ.bh.length∧b.length=512∧δ.bS≠0∧v=.int .i64 0∧Sat h' (bz p (δ.wr n b)::X::S)):=by
 have J:=s
 obtain ⟨pg,wt,nw,lg,mk,tn,tl,ops,s⟩:=cL.1 s
 refine Call.of_wp (hT.free _ rfl) Tryz.func138 rfl rfl (zK 5 rfl (WP.block (zK 4 rfl (zf rfl (nc _ _) ?_))))
 refine zd rfl (aS rfl (s.ld (k:=0) rfl nU rfl)) ?_ ?_
 ·intro hd
  exact zk 7 rfl (WP.ret ⟨aa,_,rfl,.inl ⟨hd,rfl,J⟩⟩)
 ·intro hd
  refine zk 7 rfl (zc rfl (Kq hT J) ?_)
  rintro v h' ⟨rfl,(⟨vT,mj,rfl⟩ | ⟨hn,rfl⟩)⟩
  ·skip
   refine zo rfl (eY rfl rfl) (zk 2 rfl (zo rfl (aO rfl rfl rfl (aW aJ (s.aG (k:=8) rfl hX))) ?_))
   refine zd rfl (ag rfl rfl aI) ?_ ?_
   ·intro I
    have I:b.length≠512:=by simp at I; omega
    exact zk 8 rfl (WP.ret ⟨aa,_,rfl,.inr (.inl ⟨hd,fun q=>I q.2.2,rfl,J⟩)⟩)
   ·intro I
    have I:b.length=512:=by simp at I; omega
    refine zk 2 rfl (zv (zj rfl (WP.skip (zg rfl (zk 2 rfl (zc rfl (l8 hT (J.ae [1]) hX hb) ?_))))))
    intro u h s
    obtain ⟨kD,_,cap,_,rfl,_⟩:=s.eH (by omega)
    have s:=s.gS
    have UL:((n.toNat:Nat):Int)=n:=by omega
    refine zo rfl (cM rfl (by rw [Tz]; rfl)) ?_
    refine az.cJ s rfl rfl rfl (cE Ij) (fun p7 h s => ?_)
    refine zS rfl (s.iw (j:=0) rfl Ii rfl rfl) (fun h s => ?_)
    refine zk 5 rfl (zc rfl (vS hT (s.ae [3]) hf) ?_)
    rintro v h (⟨h0,rfl,s⟩ | ⟨h0,rfl,s⟩)
    ·skip
     obtain ⟨pg,wt,nw,lg,mk,tn,tl,ops,s⟩:=cL.1 s
     refine zo rfl (eY rfl rfl) (zk 6 rfl (zf rfl (Mr _ _) ?_))
     refine zS rfl (by exact s.iX (k:=0) rfl Tw rfl (by decide) rfl rfl) (fun h s => ?_)
     dsimp only [Kp,V.cells,List.length_cons,List.length_nil,Nat.reduceAdd,aZ,bringA,List.take,List.drop,List.cons_append,List.nil_append,setA,List.set] at s
     refine zk 5 rfl (WP.ret ⟨aa,_,rfl,?_⟩)
     have s1:=s.ae [8,8,8]
     have s2:Sat h (Aw _ (some (n.toNat,b))::_):=kj.2 ⟨_,kj.2 ⟨_,cR.2 (ri.2 ⟨rfl,by rw [UL]; exact s1⟩)⟩⟩
     have s3:=(s2.del 8).ae [2,2,2,2,2,2,0,1,0]
     exact .inr (.inr (.inl ⟨hd,vT,mj,I,h0,rfl,cL.2 ⟨_,_,_,_,_,_,_,_,s3⟩⟩))
    ·skip
     obtain ⟨pg,wt,nw,lg,mk,tn,tl,ops,s⟩:=cL.1 s
     dsimp only [Dk.fV] at s
     obtain ⟨cs,sw⟩:=vQ.1 (s.ae [2])
     have s:=sw.ae [2,8,0,0]
     dsimp only [Kp,V.cells,List.length_cons,List.length_nil,Nat.reduceAdd,aZ,bringA,List.take,List.drop,List.cons_append,List.nil_append,setA,getA] at s
     have J:=s
     have Ot:=(s.kV (j:=2) rfl).2.2
     refine zo rfl (eY rfl rfl) (zk 4 rfl (WP.drawn [some (0,3),some (0,2),some (0,2),some (0,2),some (0,2),ak,ak,ak,ak,ak,ak] rfl (by kernel_rfl) (by kernel_rfl) ?_))
     refine zM rfl (zM rfl (zN rfl (zF rfl (BI _ _) (zL rfl (s.ld (k:=0) rfl Ih rfl) (zL rfl (s.c5 (k:=1) rfl Ty Ii) ?_)))))
     obtain ⟨i1,iy,fF,pP⟩:=PG
     obtain ⟨sv,h1,e1,s1⟩:=ku (P:=Tryz.prog) (x:=.agg [.int .i64 n,.sl kD 0 b.length cap]) s Tryz.underlying146 Ij Ii rfl (by decide) (by decide) rfl rfl
     dsimp only [V.cells] at s1
     refine aB.any rfl rfl rfl rfl (OpR.of (R:=fun v h'=>v=sv∧h'=h1) (kg rfl e1) ⟨rfl,rfl⟩) ?_
     rintro v h' ⟨rfl,rfl⟩
     have ik:cs.length=δ.waiting.length*2:=by
      obtain ⟨a,b,q1,q2,q3⟩:=s.at (k:=3) rfl
      exact PE q3
     obtain ⟨XM,h2,e2,s2⟩:=fS (s1.ae [3,0]) Tryz.underlying146 iy Ij fF (by omega) rfl (by decide) (by simp only [V.cells,aN,bG]; omega)
     dsimp only [aZ,bringA] at s2
     refine aB.any rfl rfl rfl rfl (OpR.of (R:=fun v h'=>v=XM∧h'=h2) (jL rfl rfl e2) ⟨rfl,rfl⟩) ?_
     rintro v h' ⟨rfl,rfl⟩
     have hv:=s2.kV (j:=0) rfl
     refine zN rfl (zF rfl (BI _ _) (aB.ki rfl rfl rfl (OpR.tF rfl rfl rfl (s2.iX (k:=2) rfl Tv rfl (by decide) hv.1 hv.2.1)) ?_))
     rintro v h ⟨rfl,s⟩
     dsimp only [Nat.reduceAdd,List.set,setA] at s
     refine aB.nil ⟨⟨fun _ _=>.inr ⟨rfl,⟨_,b8 rfl⟩,bP _ rfl⟩,fun _ _=>.inr ⟨rfl,⟨_,b8 rfl⟩,bP _ rfl⟩,fun _ _=>.inr ⟨rfl,⟨_,uo rfl⟩,bP _ rfl⟩,fun _ _=>.inr ⟨rfl,⟨_,nC rfl (BI _ _)⟩,bP _ rfl⟩,eZ (.inr ⟨rfl,⟨_,aS rfl (J.ld (k:=0) rfl Ih rfl)⟩,Ot⟩) (.inr ⟨rfl,⟨_,aS rfl (s1.ld (k:=1) rfl Ih rfl)⟩,Ot⟩),aa,aa,aa,aa,aa,aa,aa⟩,?_⟩
     refine zw (WP.drawn [ak,ak,ak,ak,ak,ak,ak,ak] rfl (by kernel_rfl) (by kernel_rfl) ?_)
     refine zM rfl (zN rfl (zF rfl (GB _ _) (zL rfl (s.ld (k:=2) rfl mF rfl) (zM rfl (zF rfl (Pu _ _) (zL rfl (s.ld (k:=3) rfl bK rfl) (aB.ki rfl rfl rfl (OpR.mapUpdate rfl rfl rfl rfl (mM (f:=fun v b=>aq.cy v b) (x:=b) (fun _ _=>aQ.cy _ _) (((s.ae [11]).dup (aQ.cy _ _)).ae [0,7]) oW bR)) ?_)))))))
     intro v h s
     dsimp only [aZ,bringA] at s
     refine aB.nil ⟨⟨aa,aa,aa,aa,aa,aa,aa,aa,aa⟩,?_⟩
     refine zK 4 rfl (WP.ret ⟨aa,_,rfl,?_⟩)
     have s1:=(s.ae [1,5]).R9 (x:=(n.toNat,b)) (by simp)
     rw [UL] at s1
     have s2:=((vQ.2 ⟨_,s1.ae [2,0]⟩).del 4).del 2
     exact .inr (.inr (.inr ⟨hd,vT,mj,I,h0,rfl,cL.2 ⟨_,_,_,_,_,_,_,_,s2.ae [2,2,0,0,0,0,0,0,0]⟩⟩))
  ·skip
   exact zo rfl (eY rfl rfl) (zk 12 rfl (WP.ret ⟨aa,_,rfl,.inr (.inl ⟨hd,fun q=>hn ⟨q.1,q.2.1⟩,rfl,J⟩)⟩))
theorem PI (I:W told)(s:Sat h (bz p δ::S))(J:δ.log.length<1073741824): Call ⟨Tryz.prog,told⟩ 132 [.ptr p 0] h fun v h' =>
  (δ.dead=true∧v=.aX [.bn,.int .i64 9]∧Sat h' (bz p δ::S))∨(δ.dead=false∧∃b,v=.aX [b,.int .i64 0]∧Sat h' (aU b δ.log::bz p δ::S)):=by
 have s0:=s
 obtain ⟨pg,wt,nw,lg,mk,tn,tl,ops,s⟩:=cL.1 s
 refine Call.of_wp (I.free _ rfl) Tryz.func132 rfl rfl (zK 10 rfl (zf rfl (nc _ _) ?_))
 refine zd rfl (aS rfl (s.ld (k:=0) rfl nU rfl)) ?_ ?_
 ·intro hd
  exact zk 7 rfl (WP.ret ⟨aa,_,rfl,.inl ⟨hd,rfl,s0⟩⟩)
 ·intro hd
  refine zk 7 rfl (zf rfl (tH _ _) (zl rfl (s.ld (k:=0) rfl bK rfl) (zc rfl (l8 I (s.ae [4]) (bj _ _) J) ?_)))
  intro v h s
  exact zk 3 rfl (WP.ret ⟨aa,_,rfl,.inr ⟨hd,v,rfl,(cL.2 ⟨pg,wt,nw,lg,mk,tn,tl,ops,s.ae [2,2,2,2,1,1,1,1,0]⟩).ae [1]⟩⟩)
theorem Iy (I:W told)(s:Sat h (bz p δ::S))(hl:δ.mark.length≤64): Call ⟨Tryz.prog,told⟩ 131 [.ptr p 0] h fun v h' =>
  (δ.dead=true∧v=.aX [.bn,.int .i64 9]∧Sat h' (bz p δ::S))∨(δ.dead=false∧∃b,v=.aX [b,.int .i64 0]∧Sat h' (aU b δ.mark::bz p δ::S)):=by
 have J:=s
 obtain ⟨pg,wt,nw,lg,mk,tn,tl,ops,s⟩:=cL.1 s
 refine Call.of_wp (I.free _ rfl) Tryz.func131 rfl rfl (zK 10 rfl (zf rfl (nc _ _) ?_))
 refine zd rfl (aS rfl (s.ld (k:=0) rfl nU rfl)) ?_ ?_
 ·intro hd
  exact zk 7 rfl (WP.ret ⟨aa,_,rfl,.inl ⟨hd,rfl,J⟩⟩)
 ·intro hd
  refine zk 7 rfl (zf rfl (Pt _ _) (zl rfl (s.ld (k:=0) rfl bK rfl) (zc rfl (l8 I (s.ae [5]) (c8 _ _) (by omega)) ?_)))
  intro v h s
  exact zk 3 rfl (WP.ret ⟨aa,_,rfl,.inr ⟨hd,v,rfl,(cL.2 ⟨pg,wt,nw,lg,mk,tn,tl,ops,s.ae [2,2,2,2,2,1,1,1,0]⟩).ae [1]⟩⟩)
def Dk.fresh (bh room:Nat): Dk:={ room:=room,bh:=List.replicate bh none,waiting:=[],now:=[],log:=[],eu:=0,mark:=[],bS := -1,dead:=false,BR:=none,tail:=[] }
theorem PJ : ∃i,Tryz.prog.info? 28=some i∧i.size=1∧i.bytes=24 :=
 ⟨_,(show Tryz.prog.info? 28=some ((Tryz.prog.info? 28).getD default) by kernel_rfl),by kernel_rfl,by kernel_rfl⟩
theorem FE (v:V): ∀n:Nat,repeatL [v] n=List.replicate n v:=by
 intro n
 induction n with
 | zero=>rfl
 | succ n I=>simp only [repeatL,I,wO,gX,c_]
theorem Kt {a b:PM}: ∀n:Nat,(each tP (List.replicate n .bn) (List.replicate n none)).p a b:=by
 intro n
 induction n with
 | zero=>trivial
 | succ n I=>exact ⟨rfl,I⟩
theorem MD (hT:W told){n m:Nat}(s:Sat h S)(hn:n<1073741824): Call ⟨Tryz.prog,told⟩ 88 [.int .i64 (n:Int),.int .i64 (m:Int)] h fun v h'=>∃p,v=.ptr p 0∧Sat h' (bz p (Dk.fresh n m)::S):=by
 refine Call.of_wp (hT.free _ rfl) Tryz.func88 rfl rfl (zK 8 rfl ?_)
 obtain ⟨i1,I,J,pP⟩:=PJ
 obtain ⟨id,h1,e1,s1⟩:=Ci (P:=Tryz.prog) s gm I oz J (by omega) rfl (by decide) hn
 refine az.any rfl rfl rfl (OpR.of (R:=fun v h'=>v=.sl id 0 n (.exact n)∧h'=h1) (qb rfl rfl e1) ⟨rfl,rfl⟩) ?_
 rintro v h ⟨rfl,rfl⟩
 have s:=s1
 dsimp only [V.cells] at s
 rw [cC,FE] at s
 refine az.BD s rfl rfl rfl rfl (fun p8 h s => ?_)
 refine zo rfl (cM rfl (by rw [Tx]; rfl)) ?_
 refine az.cJ s rfl rfl rfl (fR rfl rfl) (fun ZW h s => ?_)
 refine zk 2 rfl (WP.ret ⟨aa,_,rfl,?_⟩)
 have s:=(ry (f:=fun v b=>aq.cy v b) (s.ae [1]))
 have s:=s.r5.r5.DR
 have s:Sat _ (xF .bn []::_):=vQ.2 ⟨[],(s.gy (φ:=True) aa).mB⟩
 have s:Sat _ (Aw .cO none::_):=s.gy rfl
 have s:=s.ae [6,6]
 have hp:Sat _ (mD (.sl id 0 n (.exact n)) (List.replicate n none)::_):=nJ.2 ⟨id,List.replicate n .bn,by rw [eT],by
  rw [eT]
  exact (((s.ae [1]).gy (φ:=True) aa).hU fun a b _=>Kt n).ae [1]⟩
 dsimp only [V.cells,List.take,List.length_cons,List.length_nil,Nat.reduceAdd,List.drop,List.cons_append,List.nil_append,aZ,bringA,getA] at hp
 exact ⟨_,rfl,cL.2 ⟨_,_,_,_,_,_,_,_,hp.ae [1,0,1,4,1,1,0,0]⟩⟩
theorem PK (hT:W told){n m:Int}(s:Sat h S): Call ⟨Tryz.prog,told⟩ 70 [.int .i64 n,.int .i64 m] h fun v h' =>
  (¬(1≤n∧n≤65536∧0≤m∧m≤16777216)∧v=.aX [.cO,.int .i64 1]∧Sat h' S) ∨
  (1≤n∧n≤65536∧0≤m∧m≤16777216∧∃p,v=.aX [.ptr p 0,.int .i64 0]∧Sat h' (bz p (Dk.fresh n.toNat m.toNat)::S)):=by
 refine Call.of_wp (hT.free _ rfl) Tryz.func70 rfl rfl (zK 9 rfl ?_)
 refine zd rfl (ag rfl rfl aR) ?_ ?_
 ·intro hq
  have hq:n<1:=by simpa using hq
  exact zk 19 rfl (WP.ret ⟨aa,_,rfl,.inl ⟨fun q=>by omega,rfl,s⟩⟩)
 ·intro hq
  have hq:1≤n:=by simpa using hq
  refine zk 2 rfl ?_
  refine zd rfl (ag rfl rfl gA) ?_ ?_
  ·intro I
   have I:65536<n:=by simpa using I
   exact zk 16 rfl (WP.ret ⟨aa,_,rfl,.inl ⟨fun q=>by omega,rfl,s⟩⟩)
  ·intro I
   have I:n≤65536:=by simpa using I
   refine zk 3 rfl ?_
   refine zd rfl (ag rfl rfl aR) ?_ ?_
   ·intro J
    have J:m<0:=by simpa using J
    exact zk 12 rfl (WP.ret ⟨aa,_,rfl,.inl ⟨fun q=>by omega,rfl,s⟩⟩)
   ·intro J
    have J:0≤m:=by simpa using J
    refine zk 3 rfl ?_
    refine zd rfl (ag rfl rfl gA) ?_ ?_
    ·intro nh
     have nh:16777216<m:=by simpa using nh
     exact zk 8 rfl (WP.ret ⟨aa,_,rfl,.inl ⟨fun q=>by omega,rfl,s⟩⟩)
    ·intro nh
     have nh:m≤16777216:=by simpa using nh
     refine zk 8 rfl ?_
     obtain ⟨n,rfl⟩:∃k:Nat,n=k:=⟨n.toNat,by omega⟩
     obtain ⟨m,rfl⟩:∃k:Nat,m=k:=⟨m.toNat,by omega⟩
     refine zc rfl (MD hT s (by omega)) ?_
     rintro v h ⟨p,rfl,s⟩
     exact zk 3 rfl (WP.ret ⟨aa,_,rfl,.inr ⟨hq,I,J,nh,p,rfl,s⟩⟩)
end
def leN : List Nat→Nat
 | []=>0
 | b::l=>b+256*leN l
theorem ME : ∀(l:List Nat) (b:Nat),leN (l++[b])=leN l+b*256^l.length:=by
 intro l
 induction l with
 | nil=>intro b; simp [leN]
 | cons x l I=>intro b; simp only [gX,leN,I,aN,s_,Nat.mul_add]; rw [←iZ,s8 (256^l.length) 256,←Nat.mul_assoc b,s8 b 256,Nat.mul_assoc 256 b]
theorem D4 : ∀(l:List Nat),(∀b∈l,b<256)→leN l<256^l.length:=by
 intro l
 induction l with
 | nil=>intro _; simp [leN]
 | cons x l I =>
  intro h
  have h1:=I (fun b J=>h b (cr _ J))
  have h2:=h x ct
  simp only [leN,aN,s_]
  omega
theorem D5 (i:Nat): (256:Nat)^i=2^(8*i):=by rw [Nat.pow_mul]
theorem V9 {P:Program}{h:H}{t:TypeId}{x y:Operand}{d i:Nat}(hd:d<256)(hi:i≤7): binV P h .shl t x y (.int .u64 (d:Int)) (.int .i64 (8*(i:Int)))=some (.int .u64 ((d*256^i:Nat):Int)):=by
 have J:(256:Nat)^i≤256^7:=wM (by omega) hi
 have I:d*256^i<18446744073709551616:=by
  have:d*256^i≤255*256^7:=sZ (by omega) J
  omega
 simp only [binV,shiftV,IntKind.bits]
 have e:(8*(i:Int)).toNat=8*i:=by omega
 rw [e,show min (8*i) 64=8*i by omega,show decide (8*(i:Int)<0)=false by simp; omega,ay]
 have:(d:Int)*2^(8*i)=((d*256^i:Nat):Int):=by rw [D5]; push_cast; rfl
 simp only [this,wrap_u64 I]
theorem XN {P:Program}{h:H}{t:TypeId}{x y:Operand}{a d i:Nat}(I:a<256^i)(hd:d<256)(hi:i≤7): binV P h .or t x y (.int .u64 (a:Int)) (.int .u64 ((d*256^i:Nat):Int))=some (.int .u64 ((a+d*256^i:Nat):Int)):=by
 have J:(256:Nat)^i≤256^7:=wM (by omega) hi
 have hm:d*256^i≤255*256^7:=sZ (by omega) J
 have h1:((a:Int)%(2^(IntKind.u64).bits:Int)).toNat=a:=by simp only [IntKind.bits]; omega
 have h2:(((d*256^i:Nat):Int)%(2^(IntKind.u64).bits:Int)).toNat=d*256^i:=by simp only [IntKind.bits]; omega
 have h3:Nat.lor a (d*256^i)=a+d*256^i:=by
  have e:d*256^i=2^(8*i)*d:=by rw [←D5,s8]
  have:=Nat.two_pow_add_eq_or_of_lt (i:=8*i) (b:=a) (by rw [←D5]; exact I) d
  rw [←e] at this
  rw [wW a,this]
  exact Nat.or_comm _ _
 simp only [binV,ikBeq,af,intV,bitsV,h1,h2,h3]
 rw [wrap_u64 (by omega)]
section
variable {told:cz} {h:H} {S:List aq} {X:aq} {k:Nat} {v:V} {l:List Nat}
noncomputable def XO : Code:=eC [1,1,0,1,0,0] ((Tryz.f86.body).getD .skip)
theorem Ku (hv:View h v l)(hl:l.length≤8): ∀(j i:Nat) (E:List (Nat×V)) (Q:Ex→List (Nat×V)→H→Prop),i+j=l.length →
  Has E [(3,.int .u64 (leN (l.take i))),(6,v),(7,.int .i64 l.length),(8,.int .i64 i)]→(∀E',look E' 3=some (.int .u64 (leN l))→Q (.exit 0) E' h)→WP ⟨Tryz.prog,told⟩ 22 (.loop XO) E h Q:=by
 intro j
 induction j with
 | zero =>
  intro i E Q hi hE hq
  refine WP.loop (WP.has hE (zg rfl (zh rfl (ag rfl rfl aR) (by simp; omega) ?_)))
  refine zk 3 rfl (WP.exit (hq _ ?_))
  rw [dG (by omega)]
  rfl
 | succ j ih =>
  intro i E Q hi hE hq
  have J:l[i]?=some (l[i]'(by omega)):=aM _
  generalize Gh:(l[i]'(by omega))=b at J
  have I:b<256:=hv.1 b (aV J)
  obtain ⟨id,off,e1,e2⟩:=dI hv J
  have ht:l.take (i+1)=l.take i++[b]:=by rw [qp,J]; rfl
  have aY:leN (l.take i)<256^i:=by
   have:=D4 (l.take i) (fun x hx=>hv.1 x (fY hx))
   rwa [fe,mX (by omega)] at this
  refine WP.loop (WP.has hE (zg rfl (zt rfl (ag rfl rfl aR) (by simp; omega) ?_)))
  refine zk 5 rfl (WP.block (zK 3 rfl (zo rfl (cn (r:=.ptr id off) rfl rfl e1) (zl rfl e2 (zk 6 rfl (zo rfl (cN rfl (by exact kn Tryz.underlying5 dg (gz (by omega) (by omega)))) ?_))))))
  refine zm rfl (zb rfl (by exact jQ (aA (by omega) (by omega))) ?_)
  refine zb rfl (V9 I (by omega)) ?_
  refine zb rfl (XN aY I (by omega)) ?_
  refine za rfl (zv (zr rfl (zb rfl (by exact bp (aA (by omega) (by omega))) ?_)))
  refine zm rfl (zv ?_)
  refine ih (i+1) _ _ (by omega) ?_ hq
  rw [ht,ME,fe,mX (by omega)]
  exact ⟨rfl,rfl,rfl,rfl,aa⟩
theorem GN (J:W told)(s:Sat h S)(hk:getA S k=some X)(hX:cT X (cY v l))(hl:l.length≤8): Call ⟨Tryz.prog,told⟩ 86 [v] h fun r h'=>r=.int .u64 (leN l)∧h'=h:=by
 have hv:=s.aG hk hX
 refine Call.of_wp (J.free _ rfl) Tryz.func86 rfl rfl (zK 12 rfl (zo rfl (aO rfl rfl rfl (aW aJ hv)) (zk 2 rfl (WP.block ?_))))
 refine Ku hv hl l.length 0 _ _ (by omega) ⟨rfl,rfl,rfl,rfl,aa⟩ (fun E' I => ?_)
 exact WP.has (F:=[(3,.int .u64 (leN l))]) ⟨I,aa⟩ (zK 5 rfl (WP.ret ⟨aa,_,rfl,rfl,rfl⟩))
theorem Ou (I:W told)(s:Sat h S)(J:getA S k=some X)(hX:cT X (cY v l))(hl:l.length≤4611686018427387904): Call ⟨Tryz.prog,told⟩ 171 [v] h fun r h'=>r=.int .u32 (vR 0 l:Nat)∧h'=h:=by
 refine Call.of_wp (I.free _ rfl) Tryz.func171 rfl rfl (zK 7 rfl (zc rfl (PF (s:=0) I s J hX (by decide) hl) ?_))
 rintro v h' ⟨rfl,rfl⟩
 exact zk 2 rfl (WP.ret ⟨aa,_,rfl,rfl,rfl⟩)
def cQ (l:List Nat)(a z:Nat): Nat:=leN ((l.take (a+z)).drop a)
theorem rz (hT:W told){a z:Int}(s:Sat h S)(J:getA S k=some X)(hX:cT X (cY v l))(ha:0≤a)(hz:1≤z)(Ov:z≤7)(hl:a+z≤l.length)(js:l.length≤65536):
  Call ⟨Tryz.prog,told⟩ 154 [.agg [v],.int .i64 a,.int .i64 z] h fun r h'=>r=.int .i64 (cQ l a.toNat z.toNat)∧Sat h' S:=by
 have hv:=s.aG J hX
 obtain ⟨pi,po,pc,rfl⟩:=gZ hv (by omega)
 refine Call.of_wp (hT.free _ rfl) Tryz.func154 rfl rfl (zg rfl ?_)
 refine az.cJ s rfl rfl rfl (fR rfl rfl) (fun p3 h s => ?_)
 refine zk 4 rfl (zf rfl (fL _ _) (zl rfl (s.ld (k:=0) rfl bK rfl) (zk 3 rfl (zb rfl (by exact bp (aA (by omega) (by omega))) ?_))))
 refine zk 2 rfl (zb rfl (by exact bp (aA (by omega) (by omega))) ?_)
 have kZ:=yj (s.aG (kQ J) hX) (a:=a.toNat) (b:=(a+z).toNat) (c:=(a+z).toNat) (by omega) (by omega) (by omega) (by omega)
 refine zo rfl (eF (p:=some (.int .i64 a)) (q:=some (.int .i64 (a+z))) (m:=some (.int .i64 (a+z))) rfl rfl rfl rfl (fB ha) (fB (by omega)) (fB (by omega)) kZ) ?_
 have hlen:((l.take (a+z).toNat).drop a.toNat).length=z.toNat:=by simp; omega
 refine zc rfl (GN hT s (kQ J) (Cj hX (a:=a.toNat) (b:=(a+z).toNat) (c:=(a+z).toNat) (by omega) (by omega) (by omega) (by omega)) (by omega)) ?_
 rintro r h' ⟨rfl,rfl⟩
 have I:=D4 ((l.take (a+z).toNat).drop a.toNat) (fun x hx=>hv.1 x (fY (gG hx)))
 have hp:256^z.toNat≤256^7:=wM (by omega) (by omega)
 rw [hlen] at I
 have e:(a+z).toNat=a.toNat+z.toNat:=by omega
 rw [e] at I ⊢
 refine zo rfl (cN rfl (by exact kn dg bR (aA (by omega) (by omega)))) ?_
 exact zk 2 rfl (WP.ret ⟨aa,_,rfl,rfl,s.drop⟩)
theorem Ax {a z:Nat}(I:∀b∈l,b<256): cQ l a z<256^z:=by
 have:=D4 ((l.take (a+z)).drop a) (fun x J=>I x (fY (gG J)))
 have h2:((l.take (a+z)).drop a).length≤z:=by simp; omega
 exact gH this (wM (by omega) h2)
def jt (l:List Nat): Nat:=cQ l 14 2
def gB (l:List Nat): Nat:=cQ l 16 2
def cP (l:List Nat)(i:Nat): Nat:=cQ l (26+4*i) 2
def gC (l:List Nat)(i:Nat): Nat:=cQ l (26+4*i+2) 2
theorem jR (I:W told)(s:Sat h S)(J:getA S k=some X)(hX:cT X (cY v l))(hl:l.length=512):
  Call ⟨Tryz.prog,told⟩ 101 [.agg [v]] h fun r h'=>r=.int .i64 (jt l)∧Sat h' S:=by
 have hv:=s.aG J hX
 obtain ⟨pi,po,pc,rfl⟩:=gZ hv (by omega)
 refine Call.of_wp (I.free _ rfl) Tryz.func101 rfl rfl (zg rfl ?_)
 refine az.cJ s rfl rfl rfl (fR rfl rfl) (fun p1 h s => ?_)
 refine zk 4 rfl (zl rfl (s.c5 (k:=0) rfl bU br) (zc rfl (rz I s (kQ J) hX (by decide) (by decide) (by decide) (by omega) (by omega)) ?_))
 rintro r h' ⟨rfl,s⟩
 exact zk 2 rfl (WP.ret ⟨aa,_,rfl,rfl,s.drop⟩)
theorem D6 (I:W told)(s:Sat h S)(J:getA S k=some X)(hX:cT X (cY v l))(hl:l.length=512):
  Call ⟨Tryz.prog,told⟩ 156 [.agg [v]] h fun r h'=>r=.int .i64 (gB l)∧Sat h' S:=by
 have hv:=s.aG J hX
 obtain ⟨pi,po,pc,rfl⟩:=gZ hv (by omega)
 refine Call.of_wp (I.free _ rfl) Tryz.func156 rfl rfl (zg rfl ?_)
 refine az.cJ s rfl rfl rfl (fR rfl rfl) (fun p1 h s => ?_)
 refine zk 4 rfl (zl rfl (s.c5 (k:=0) rfl bU br) (zc rfl (rz I s (kQ J) hX (by decide) (by decide) (by decide) (by omega) (by omega)) ?_))
 rintro r h' ⟨rfl,s⟩
 exact zk 2 rfl (WP.ret ⟨aa,_,rfl,rfl,s.drop⟩)
end
def uT (t:List Bool): List V:=t.map V.bool
theorem PL (t:List Bool)(k:Nat)(b:Bool): (uT t).set k (.bool b)=uT (t.set k b):=by simp [uT,List.map_set]
theorem GO {t:List Bool}{k:Nat}(I:k<t.length): nth (uT t) k=some (.bool (t.getD k false)):=by
 rw [eW]; simp [uT,aM I]
theorem MF : zeroT Tryz.prog 227=some (.agg (uT (List.replicate 512 false))):=by kernel_rfl
def markL : Nat→Nat→List Bool→Option (List Bool)
 | 0,_,t=>some t
 | n+1,k,t=>if t.getD k false then none else markL n (k+1) (t.set k true)
def cellsL (l:List Nat)(low:Nat): Nat→Nat→List Bool→Bool
 | 0,_,_=>true
 | n+1,i,t=>if cP l i<low∨512<cP l i+gC l i then false else match markL (gC l i) (cP l i) t with
  | none=>false
  | some t'=>cellsL l low n (i+1) t'
def bV (l:List Nat): Bool:=decide (l.length=512)&&(decide (l.getD 13 0=0)&&(decide (26+4*jt l≤gB l∧gB l≤512)&&cellsL l (gB l) (jt l) 0 (List.replicate 512 false)))
theorem Kv : ∀(n k:Nat) (t t':List Bool),markL n k t=some t'→t'.length=t.length:=by
 intro n
 induction n with
 | zero=>intro k t t' h; simp only [markL] at h; injection h with h; subst h; rfl
 | succ n I =>
  intro k t t' h
  simp only [markL] at h
  split at h
  ·cases h
  ·have:=I _ _ _ h; simpa using this
section
variable {told:cz} {h:H} {S:List aq} {X:aq} {k:Nat} {v:V} {l:List Nat}
theorem xG (I:W told){i:Nat}(s:Sat h S)(J:getA S k=some X)(hX:cT X (cY v l))(hl:l.length=512)(hi:30+4*i≤512):
  Call ⟨Tryz.prog,told⟩ 155 [.agg [v],.int .i64 (i:Int)] h fun r h'=>r=.aX [.int .i64 (cP l i),.int .i64 (gC l i)]∧Sat h' S:=by
 have hv:=s.aG J hX
 obtain ⟨pi,po,pc,rfl⟩:=gZ hv (by omega)
 have e1:(26+4*(i:Int)).toNat=26+4*i:=by omega
 have e2:(26+4*(i:Int)+2).toNat=26+4*i+2:=by omega
 refine Call.of_wp (I.free _ rfl) Tryz.func155 rfl rfl (zg rfl ?_)
 refine az.cJ s rfl rfl rfl (fR rfl rfl) (fun p2 h s => ?_)
 refine zk 6 rfl (zb rfl (by exact jQ (aA (by omega) (by omega))) ?_)
 refine zb rfl (by exact bp (aA (by omega) (by omega))) ?_
 refine zk 3 rfl ?_
 have s0:=s
 refine WP.drawn [ak,ak,ak,some (0,2),some (0,2),some (0,2),ak,ak,ak] rfl (by kernel_rfl) (by kernel_rfl) ?_
 refine zL rfl (s.c5 (k:=0) rfl bU br) (zM rfl (aB.any rfl rfl rfl rfl (OpR.call rfl rfl rfl rfl (rz I s (kQ J) hX (by omega) (by decide) (by decide) (by omega) (by omega))) ?_))
 rintro r h' ⟨rfl,s⟩
 rw [e1]
 have s1:=s
 refine zL rfl (s.c5 (k:=0) rfl bU br) (zM rfl (zO rfl (ag rfl rfl (by exact bp (aA (by omega) (by omega)))) ?_))
 refine aB.any rfl rfl rfl rfl (OpR.call rfl rfl rfl rfl (rz I s (kQ J) hX (by omega) (by decide) (by decide) (by omega) (by omega))) ?_
 rintro r h' ⟨rfl,s⟩
 rw [e2]
 refine zA rfl (zA rfl ?_)
 refine aB.nil ⟨⟨aa,aa,aa,eZ (.inr ⟨rfl,⟨_,aS rfl (s0.c5 (k:=0) rfl bU br)⟩,bP _ rfl⟩) (.inr ⟨rfl,⟨_,aS rfl (s1.c5 (k:=0) rfl bU br)⟩,bP _ rfl⟩),fun _ _=>.inr ⟨rfl,⟨_,b8 rfl⟩,bP _ rfl⟩,fun _ _=>.inr ⟨rfl,⟨_,ag rfl rfl (by exact bp (aA (by omega) (by omega)))⟩,bP _ rfl⟩,aa,aa,aa,aa⟩,?_⟩
 refine WP.ret ⟨aa,_,rfl,?_⟩
 exact ⟨rfl,s.drop⟩
noncomputable def XP : Code:=eC [1,1,1,1,1,1,0,1,0,0] ((Tryz.f107.body).getD .skip)
noncomputable def XQ : Code:=eC [1,1,1,1,1,1,0,1,0,0,1,1,0,0,1,1,1,1,0,0] ((Tryz.f107.body).getD .skip)
theorem Iz {p6 a z:Nat}{v3 v4 v5 v35 v36:V}(ZX:a+z≤512): ∀(m q:Nat) (t:List Bool) (h:H) (E:List (Nat×V)) (Q:Ex→List (Nat×V)→H→Prop),q+m=a+z→t.length=512 →
  Sat h (pt p6 (.cells 512 (uT t) false)::S)→Has E [(3,v3),(4,v4),(5,v5),(6,.ptr p6 0),(8,.int .i64 (a:Int)),(9,.int .i64 (z:Int)),(10,.int .i64 (q:Int)),(35,v35),(36,v36)] →
  (markL m q t=none→∀E' h',look E' 2=some (.bool false)→Sat h' S→Q .ret E' h') →
  (∀t' E' h',markL m q t=some t'→Has E' [(3,v3),(4,v4),(5,v5),(6,.ptr p6 0),(35,v35),(36,v36)]→Sat h' (pt p6 (.cells 512 (uT t') false)::S)→Q (.exit 2) E' h') →
  WP ⟨Tryz.prog,told⟩ 68 (.loop XQ) E h Q:=by
 intro m
 induction m with
 | zero =>
  intro q t h E Q hq ht s hE J hx
  refine WP.loop (WP.has hE (zK 6 rfl (zb rfl (by exact bp (aA (by omega) (by omega))) ?_)))
  refine zh rfl (ag rfl rfl aR) (by simp; omega) ?_
  exact zk 2 rfl (WP.exit (hx t _ _ rfl ⟨rfl,rfl,rfl,rfl,rfl,rfl,aa⟩ s))
 | succ m ih =>
  intro q t h E Q hq ht s hE J hx
  have I:q<t.length:=by omega
  refine WP.loop (WP.has hE (zK 6 rfl (zb rfl (by exact bp (aA (by omega) (by omega))) ?_)))
  refine zt rfl (ag rfl rfl aR) (by simp; omega) ?_
  refine zk 4 rfl (WP.block (zK 4 rfl (zo rfl (cn (r:=.ptr p6 q) rfl rfl (by rw [Oh,show (decide ((0:Int)≤(q:Int))&&decide ((q:Int)<((512:Nat):Int)))=true by simp; omega,af]; simp)) ?_)))
  cases hm:t.getD q false with
  | true =>
   refine zt rfl (aS rfl (s.ld (k:=0) rfl nU (GO I))) (hm) (zk 6 rfl (WP.ret ?_))
   refine J ?_ _ _ rfl s.drop
   rw [markL,ax hm]
  | false =>
   refine zh rfl (aS rfl (s.ld (k:=0) rfl nU (GO I))) (hm) (zk 5 rfl (zo rfl (cn (r:=.ptr p6 q) rfl rfl (by rw [Oh,show (decide ((0:Int)≤(q:Int))&&decide ((q:Int)<((512:Nat):Int)))=true by simp; omega,af]; simp)) ?_))
   refine zS rfl (s.iX (k:=0) rfl yf (by simp [uT,ht]) (by omega) rfl rfl) ?_
   intro h s
   dsimp only [setA] at s
   rw [PL] at s
   refine zv (zr rfl (zm rfl (zb rfl (by exact bp (aA (by omega) (by omega))) ?_)))
   refine za rfl (zv ?_)
   have e:markL (m+1) q t=markL m (q+1) (t.set q true):=by rw [markL,ai (by rw [hm]; decide)]
   rw [e] at J hx
   exact ih (q+1) (t.set q true) h _ Q (by omega) (by simp [ht]) s ⟨rfl,rfl,rfl,rfl,rfl,rfl,rfl,rfl,rfl,aa⟩ J hx
theorem IA (hT:W told){p6 p3:Nat}{n low:Nat}{x:V}(hX:cT X (cY x l))(hl:l.length=512)(aY:∀b∈l,b<256)(Gs:x.cells=[x])(ZY:storable x=true)(hn:n=jt l)(vU:26+4*n≤low)(Zk:low≤512): ∀(m i:Nat) (t:List Bool) (h:H) (E:List (Nat×V)) (Q:Ex→List (Nat×V)→H→Prop),i+m=n→t.length=512 →
  Sat h (pt p6 (.cells 512 (uT t) false)::pt p3 (.cells 1 [x] false)::X::S)→Has E [(3,.ptr p3 0),(4,.int .i64 (n:Int)),(5,.int .i64 (low:Int)),(6,.ptr p6 0),(35,.int .i64 (n:Int)),(36,.int .i64 (i:Int))] →
  (cellsL l low m i t=false→∀E' h',look E' 2=some (.bool false)→Sat h' (X::S)→Q .ret E' h') →
  (cellsL l low m i t=true→∀E' h',Sat h' (X::S)→Q (.exit 0) E' h') →
  WP ⟨Tryz.prog,told⟩ 68 (.loop XP) E h Q:=by
 intro m
 induction m with
 | zero =>
  intro i t h E Q hi ht s hE J hx
  refine WP.loop (WP.has hE (zg rfl (zh rfl (ag rfl rfl aR) (by simp; omega) ?_)))
  exact zk 3 rfl (WP.exit (hx rfl _ _ s.drop.drop))
 | succ m ih =>
  intro i t h E Q hi ht s hE J hx
  have hf:=Ax (l:=l) (a:=26+4*i) (z:=2) aY
  have hz:=Ax (l:=l) (a:=26+4*i+2) (z:=2) aY
  have ef:cP l i=cQ l (26+4*i) 2:=rfl
  have ez:gC l i=cQ l (26+4*i+2) 2:=rfl
  refine WP.loop (WP.has hE (zg rfl (zt rfl (ag rfl rfl aR) (by simp; omega) ?_)))
  refine zk 5 rfl (WP.block (zK 7 rfl (zl rfl (s.c5 (k:=1) rfl bU br) (zm rfl (zc rfl (xG (i:=i) hT s (k:=2) rfl hX hl (by omega)) ?_)))))
  rintro r h' ⟨rfl,s⟩
  refine zk 11 rfl ?_
  refine zd rfl (ag rfl rfl aR) ?_ ?_
  ·intro hq
   have hq:cP l i<low:=by simp at hq; omega
   refine zk 12 rfl (WP.ret ?_)
   refine J ?_ _ _ rfl s.drop.drop
   rw [cellsL,ax (.inl hq)]
  ·intro hq
   have hq:low≤cP l i:=by simp at hq; omega
   refine zk 3 rfl (zb rfl (by exact bp (aA (by omega) (by omega))) ?_)
   refine zd rfl (ag rfl rfl gA) ?_ ?_
   ·intro I
    have I:512<cP l i+gC l i:=by simp at I; omega
    refine zk 7 rfl (WP.ret ?_)
    refine J ?_ _ _ rfl s.drop.drop
    rw [cellsL,ax (.inr I)]
   ·intro I
    have I:cP l i+gC l i≤512:=by simp at I; omega
    refine zk 9 rfl (WP.block ?_)
    have e:cellsL l low (m+1) i t=(match markL (gC l i) (cP l i) t with | none=>false | some t'=>cellsL l low m (i+1) t'):=by rw [cellsL,ai (by omega)]
    rw [e] at J hx
    refine Iz I (gC l i) (cP l i) t _ _ _ rfl ht s ⟨rfl,rfl,rfl,rfl,rfl,rfl,rfl,rfl,rfl,aa⟩ (fun hm E' h' h2 s' => ?_) (fun t' E' h' hm lI s' => ?_)
    ·rw [hm] at J
     exact J rfl _ _ h2 s'.drop
    ·rw [hm] at J hx
     refine WP.has lI (zr rfl (zb rfl (by exact bp (aA (by omega) (by omega))) ?_))
     refine zm rfl (zv ?_)
     exact ih (i+1) t' h' _ Q (by omega) (by rw [Kv _ _ _ _ hm,ht]) s' ⟨rfl,rfl,rfl,rfl,rfl,rfl,aa⟩ J hx
theorem GP (hT:W told)(s:Sat h (X::S))(hX:cT X (cY v l))(js:l.length<9223372036854775808):
  Call ⟨Tryz.prog,told⟩ 107 [v] h fun r h'=>r=.bool (bV l)∧Sat h' (X::S):=by
 have hv:=s.aG (k:=0) rfl hX
 refine Call.of_wp (hT.free _ rfl) Tryz.func107 rfl rfl (zK 8 rfl (zo rfl (aO rfl rfl rfl (aW aJ (s.aG (k:=0) rfl hX))) ?_))
 refine zd rfl (ag rfl rfl aI) ?_ ?_
 ·intro hq
  have hq:l.length≠512:=by simp at hq; omega
  exact zk 12 rfl (WP.ret ⟨aa,_,rfl,by rw [bV,dm hq,f_],s⟩)
 ·intro hq
  have hq:l.length=512:=by simp at hq; omega
  have hb:l[13]?=some (l[13]'(by omega)):=aM _
  generalize Gh:(l[13]'(by omega))=b at hb
  have oY:l.getD 13 0=b:=by rw [dN,hb]; rfl
  obtain ⟨id,off,e1,e2⟩:=dI hv hb
  refine zk 2 rfl (zo rfl (cn (r:=.ptr id off) rfl rfl e1) (zl rfl e2 ?_))
  refine zd rfl (ag rfl rfl aI) ?_ ?_
  ·intro I
   have I:b≠0:=by simp at I; omega
   exact zk 7 rfl (WP.ret ⟨aa,_,rfl,by rw [bV,cZ hq,oY,dm I,f_,Bj],s⟩)
  ·intro I
   have I:b=0:=by simp at I; omega
   obtain ⟨pi,po,pc,rfl⟩:=gZ hv (by omega)
   refine zk 7 rfl (zo rfl (cM rfl (by rw [xw]; rfl)) ?_)
   refine az.cJ s rfl rfl rfl (cE iR) (fun p3 h s => ?_)
   refine zS rfl (s.iw (j:=0) rfl br rfl rfl) (fun h s => ?_)
   refine zk 2 rfl ?_
   have s0:=s
   refine WP.drawn [none,none,some (0,2),ak,ak,ak] rfl (by kernel_rfl) (by kernel_rfl) ?_
   refine zL rfl (s.c5 (k:=0) rfl bU br) (aB.any rfl rfl rfl rfl (OpR.call rfl rfl rfl rfl (jR hT s (k:=1) rfl hX hq)) ?_)
   rintro r h' ⟨rfl,s⟩
   have s1:=s
   refine zL rfl (s.c5 (k:=0) rfl bU br) (aB.any rfl rfl rfl rfl (OpR.call rfl rfl rfl rfl (D6 hT s (k:=1) rfl hX hq)) ?_)
   rintro r h' ⟨rfl,s⟩
   refine zA rfl (zA rfl ?_)
   refine aB.nil ⟨⟨aa,aa,eZ (.inr ⟨rfl,⟨_,aS rfl (s0.c5 (k:=0) rfl bU br)⟩,bP _ rfl⟩) (.inr ⟨rfl,⟨_,aS rfl (s1.c5 (k:=0) rfl bU br)⟩,bP _ rfl⟩),aa,aa,aa,aa⟩,?_⟩
   have tA:=Ax (l:=l) (a:=14) (z:=2) hv.1
   have lz:=Ax (l:=l) (a:=16) (z:=2) hv.1
   have ec:jt l=cQ l 14 2:=rfl
   have el:gB l=cQ l 16 2:=rfl
   refine zK 4 rfl (zb rfl (by exact jQ (aA (by omega) (by omega))) ?_)
   refine zb rfl (by exact bp (aA (by omega) (by omega))) ?_
   refine zm rfl ?_
   refine zd rfl (ag rfl rfl gA) ?_ ?_
   ·intro J
    have J:gB l<26+4*jt l:=by simp at J; omega
    exact zk 10 rfl (WP.ret ⟨aa,_,rfl,by rw [bV,cZ hq,oY,cZ I,dm (by omega:¬(26+4*jt l≤gB l∧gB l≤512))]; rfl,s.drop⟩)
   ·intro J
    have J:26+4*jt l≤gB l:=by simp at J; omega
    refine zk 2 rfl ?_
    refine zd rfl (ag rfl rfl gA) ?_ ?_
    ·intro nh
     have nh:512<gB l:=by simp at nh; omega
     exact zk 7 rfl (WP.ret ⟨aa,_,rfl,by rw [bV,cZ hq,oY,cZ I,dm (by omega:¬(26+4*jt l≤gB l∧gB l≤512))]; rfl,s.drop⟩)
    ·intro nh
     have nh:gB l≤512:=by simp at nh; omega
     refine zk 6 rfl (az.cJ s rfl rfl rfl (cE MF) ?_)
     intro p6 h s
     have qT:(uT (List.replicate 512 false)).length=512:=by rw [uT,er,eT]
     dsimp only [V.cells] at s
     rw [qT] at s
     refine zk 7 rfl (WP.block ?_)
     have hg:bV l=cellsL l (gB l) (jt l) 0 (List.replicate 512 false):=by
      rw [bV,cZ hq,oY,cZ I,cZ (⟨J,nh⟩:26+4*jt l≤gB l∧gB l≤512)]; rfl
     refine IA hT hX hq hv.1 rfl rfl rfl J nh (jt l) 0 (List.replicate 512 false) _ _ _ (by omega) eT s ⟨rfl,rfl,rfl,rfl,rfl,rfl,aa⟩ (fun hc E' h' h2 s' => ?_) (fun hc E' h' s' => ?_)
     ·rw [hg,hc]
      exact ⟨aa,_,BE h2,rfl,s'⟩
     ·rw [hg,hc]
      exact WP.has (F:=[]) aa (zK 4 rfl (WP.ret ⟨aa,_,rfl,rfl,s'⟩))
end
end Go.Proofs.YtefepnnfphdkpaaGreat.Am
