/- SpaceAll: a part of its proof; conditions: its statement's. -/
import Derived.Test.YtefepnnfphdkpaaGreatA18
namespace Go.Proofs.YtefepnnfphdkpaaGreat.Am
open Go
section
variable {told:cX} {h:H} {S:List au} {X:au} {p:Nat} {δ:Dk}
def Dk.wr (δ:Dk)(n:Int)(b:List Nat): Dk:={ δ.gi with waiting:=δ.waiting++[(n.toNat,b)],now:=dr n b δ.now }
theorem M8 : ∃i,Tryz.prog.info? 151=some i∧i.size=2∧i.bytes=32 :=
 ⟨_,(show Tryz.prog.info? 151=some ((Tryz.prog.info? 151).getD default) by kernel_rfl),by kernel_rfl,by kernel_rfl⟩
theorem Sat.Pz {cs:List V}{m:List Wr}{u:V}{x:Wr}(s:Sat h (.cr u x.2::yy cs m::S))(hu:u≠.bq): Sat h (yy (cs++[.int .i64 (x.1:Int),u]) (m++[x])::S) :=
 s.two (a_.cr _ _) (a_.wr _ _) fun _ _ I J=>M5 J hu I
theorem Iu (hT:W told){n:Int}{x:V}{b:List Nat}(s:Sat h (bj p δ::X::S))(hX:cN X (cQ x b))(hb:b.length<1073741824)(hf:δ.bJ<4294967296)(hw:δ.waiting.length≤268435456):
  Call ⟨Tryz.prog,told⟩ 138 [.ptr p 0,.int .i64 n,x] h fun v h' =>
  (δ.dead=true∧v=.int .i64 9∧Sat h' (bj p δ::X::S)) ∨
  (δ.dead=false∧¬(0≤n∧n<δ.aT.length∧b.length=512)∧v=.int .i64 1∧Sat h' (bj p δ::X::S)) ∨
  (δ.dead=false∧0≤n∧n<δ.aT.length∧b.length=512∧δ.bJ=0∧v=.int .i64 9∧Sat h' (bj p { δ.die with Ar:=some (n.toNat,b) }::X::S)) ∨
  (δ.dead=false∧0≤n∧n<δ.aT.length∧b.length=512∧δ.bJ≠0∧v=.int .i64 0∧Sat h' (bj p (δ.wr n b)::X::S)):=by
 have J:=s
 obtain ⟨pg,wt,nw,lg,mk,tn,tl,ops,s⟩:=cn.1 s
 refine Call.of_wp (hT.free _ rfl) Tryz.func138 rfl rfl (zK 5 rfl (WP.block (zK 4 rfl (zf rfl (me _ _) ?_))))
 refine zd rfl (bp rfl (s.ld (k:=0) rfl mJ rfl)) ?_ ?_
 ·intro hd
  exact zk 7 rfl (WP.ret ⟨aa,_,rfl,.inl ⟨hd,rfl,J⟩⟩)
 ·intro hd
  refine zk 7 rfl (zc rfl (Is hT J) ?_)
  rintro v h' ⟨rfl,(⟨wu,ow,rfl⟩ | ⟨hn,rfl⟩)⟩
  ·skip
   refine zo rfl (eP rfl rfl) (zk 2 rfl (zo rfl (aQ rfl rfl rfl (bw aM (s.aK (k:=8) rfl hX))) ?_))
   refine zd rfl (ag rfl rfl aF) ?_ ?_
   ·intro I
    have I:b.length≠512:=by simp at I; omega
    exact zk 8 rfl (WP.ret ⟨aa,_,rfl,.inr (.inl ⟨hd,fun q=>I q.2.2,rfl,J⟩)⟩)
   ·intro I
    have I:b.length=512:=by simp at I; omega
    refine zk 2 rfl (zv (zj rfl (WP.skip (zg rfl (zk 2 rfl (zc rfl (kW hT (J.ae [1]) hX hb) ?_))))))
    intro u h s
    obtain ⟨qd,_,cap,_,rfl,_⟩:=s.eo (by omega)
    have s:=s.gH
    have RJ:((n.toNat:Nat):Int)=n:=by omega
    refine zo rfl (cW rfl (by rw [Qz]; rfl)) ?_
    refine az.cx s rfl rfl rfl (cz Gb) (fun p7 h s => ?_)
    refine zS rfl (s.ik (j:=0) rfl Ga rfl rfl) (fun h s => ?_)
    refine zk 5 rfl (zc rfl (uE hT (s.ae [3]) hf) ?_)
    rintro v h (⟨h0,rfl,s⟩ | ⟨h0,rfl,s⟩)
    ·skip
     obtain ⟨pg,wt,nw,lg,mk,tn,tl,ops,s⟩:=cn.1 s
     refine zo rfl (eP rfl rfl) (zk 6 rfl (zf rfl (Kq _ _) ?_))
     refine zS rfl (by exact s.je (k:=0) rfl Qw rfl (by decide) rfl rfl) (fun h s => ?_)
     dsimp only [Ir,V.cells,List.length_cons,List.length_nil,Nat.reduceAdd,bk,bringA,List.take,List.drop,List.cons_append,List.nil_append,setA,List.set] at s
     refine zk 5 rfl (WP.ret ⟨aa,_,rfl,?_⟩)
     have s1:=s.ae [8,8,8]
     have s2:Sat h (yz _ (some (n.toNat,b))::_):=g8.2 ⟨_,g8.2 ⟨_,cP.2 (p_.2 ⟨rfl,by rw [RJ]; exact s1⟩)⟩⟩
     have s3:=(s2.del 8).ae [2,2,2,2,2,2,0,1,0]
     exact .inr (.inr (.inl ⟨hd,wu,ow,I,h0,rfl,cn.2 ⟨_,_,_,_,_,_,_,_,s3⟩⟩))
    ·skip
     obtain ⟨pg,wt,nw,lg,mk,tn,tl,ops,s⟩:=cn.1 s
     dsimp only [Dk.gi] at s
     obtain ⟨cs,sw⟩:=uC.1 (s.ae [2])
     have s:=sw.ae [2,8,0,0]
     dsimp only [Ir,V.cells,List.length_cons,List.length_nil,Nat.reduceAdd,bk,bringA,List.take,List.drop,List.cons_append,List.nil_append,setA,getA] at s
     have J:=s
     have RK:=(s.ny (j:=2) rfl).2.2
     refine zo rfl (eP rfl rfl) (zk 4 rfl (WP.drawn [some (0,3),some (0,2),some (0,2),some (0,2),some (0,2),ak,ak,ak,ak,ak,ak] rfl (by kernel_rfl) (by kernel_rfl) ?_))
     refine zM rfl (zM rfl (zN rfl (zF rfl (Ag _ _) (zL rfl (s.ld (k:=0) rfl F_ rfl) (zL rfl (s.cG (k:=1) rfl Qy Ga) ?_)))))
     obtain ⟨i1,jI,iq,r9⟩:=M8
     obtain ⟨sv,h1,e1,s1⟩:=kU (P:=Tryz.prog) (x:=.agg [.int .i64 n,.sl qd 0 b.length cap]) s Tryz.underlying146 Gb Ga rfl (by decide) (by decide) rfl rfl
     dsimp only [V.cells] at s1
     refine aD.any rfl rfl rfl rfl (OpR.of (R:=fun v h'=>v=sv∧h'=h1) (lP rfl e1) ⟨rfl,rfl⟩) ?_
     rintro v h' ⟨rfl,rfl⟩
     have kq:cs.length=δ.waiting.length*2:=by
      obtain ⟨a,b,q1,q2,q3⟩:=s.at (k:=3) rfl
      exact M6 q3
     obtain ⟨Uw,h2,e2,s2⟩:=ie (s1.ae [3,0]) Tryz.underlying146 jI Gb iq (by omega) rfl (by decide) (by simp only [V.cells,bf,bR]; omega)
     dsimp only [bk,bringA] at s2
     refine aD.any rfl rfl rfl rfl (OpR.of (R:=fun v h'=>v=Uw∧h'=h2) (kS rfl rfl e2) ⟨rfl,rfl⟩) ?_
     rintro v h' ⟨rfl,rfl⟩
     have hv:=s2.ny (j:=0) rfl
     refine zN rfl (zF rfl (Ag _ _) (aD.lQ rfl rfl rfl (OpR.AX rfl rfl rfl (s2.je (k:=2) rfl Qv rfl (by decide) hv.1 hv.2.1)) ?_))
     rintro v h ⟨rfl,s⟩
     dsimp only [Nat.reduceAdd,List.set,setA] at s
     refine aD.nil ⟨⟨fun _ _=>.inr ⟨rfl,⟨_,bT rfl⟩,bP _ rfl⟩,fun _ _=>.inr ⟨rfl,⟨_,bT rfl⟩,bP _ rfl⟩,fun _ _=>.inr ⟨rfl,⟨_,sM rfl⟩,bP _ rfl⟩,fun _ _=>.inr ⟨rfl,⟨_,nq rfl (Ag _ _)⟩,bP _ rfl⟩,fh (.inr ⟨rfl,⟨_,bp rfl (J.ld (k:=0) rfl F_ rfl)⟩,RK⟩) (.inr ⟨rfl,⟨_,bp rfl (s1.ld (k:=1) rfl F_ rfl)⟩,RK⟩),aa,aa,aa,aa,aa,aa,aa⟩,?_⟩
     refine zw (WP.drawn [ak,ak,ak,ak,ak,ak,ak,ak] rfl (by kernel_rfl) (by kernel_rfl) ?_)
     refine zM rfl (zN rfl (zF rfl (EK _ _) (zL rfl (s.ld (k:=2) rfl lJ rfl) (zM rfl (zF rfl (MT _ _) (zL rfl (s.ld (k:=3) rfl cy rfl) (aD.lQ rfl rfl rfl (OpR.mapUpdate rfl rfl rfl rfl (lR (f:=fun v b=>au.cr v b) (x:=b) (fun _ _=>a_.cr _ _) (((s.ae [11]).dup (a_.cr _ _)).ae [0,7]) nV bG)) ?_)))))))
     intro v h s
     dsimp only [bk,bringA] at s
     refine aD.nil ⟨⟨aa,aa,aa,aa,aa,aa,aa,aa,aa⟩,?_⟩
     refine zK 4 rfl (WP.ret ⟨aa,_,rfl,?_⟩)
     have s1:=(s.ae [1,5]).Pz (x:=(n.toNat,b)) (by simp)
     rw [RJ] at s1
     have s2:=((uC.2 ⟨_,s1.ae [2,0]⟩).del 4).del 2
     exact .inr (.inr (.inr ⟨hd,wu,ow,I,h0,rfl,cn.2 ⟨_,_,_,_,_,_,_,_,s2.ae [2,2,0,0,0,0,0,0,0]⟩⟩))
  ·skip
   exact zo rfl (eP rfl rfl) (zk 12 rfl (WP.ret ⟨aa,_,rfl,.inr (.inl ⟨hd,fun q=>hn ⟨q.1,q.2.1⟩,rfl,J⟩)⟩))
theorem M9 (J:W told)(s:Sat h (bj p δ::S))(hl:δ.log.length<1073741824): Call ⟨Tryz.prog,told⟩ 132 [.ptr p 0] h fun v h' =>
  (δ.dead=true∧v=.aX [.bq,.int .i64 9]∧Sat h' (bj p δ::S))∨(δ.dead=false∧∃b,v=.aX [b,.int .i64 0]∧Sat h' (bg b δ.log::bj p δ::S)):=by
 have s0:=s
 obtain ⟨pg,wt,nw,lg,mk,tn,tl,ops,s⟩:=cn.1 s
 refine Call.of_wp (J.free _ rfl) Tryz.func132 rfl rfl (zK 10 rfl (zf rfl (me _ _) ?_))
 refine zd rfl (bp rfl (s.ld (k:=0) rfl mJ rfl)) ?_ ?_
 ·intro I
  exact zk 7 rfl (WP.ret ⟨aa,_,rfl,.inl ⟨I,rfl,s0⟩⟩)
 ·intro I
  refine zk 7 rfl (zf rfl (rU _ _) (zl rfl (s.ld (k:=0) rfl cy rfl) (zc rfl (kW J (s.ae [4]) (bz _ _) hl) ?_)))
  intro v h s
  exact zk 3 rfl (WP.ret ⟨aa,_,rfl,.inr ⟨I,v,rfl,(cn.2 ⟨pg,wt,nw,lg,mk,tn,tl,ops,s.ae [2,2,2,2,1,1,1,1,0]⟩).ae [1]⟩⟩)
theorem Gp (J:W told)(s:Sat h (bj p δ::S))(hl:δ.mark.length≤64): Call ⟨Tryz.prog,told⟩ 131 [.ptr p 0] h fun v h' =>
  (δ.dead=true∧v=.aX [.bq,.int .i64 9]∧Sat h' (bj p δ::S))∨(δ.dead=false∧∃b,v=.aX [b,.int .i64 0]∧Sat h' (bg b δ.mark::bj p δ::S)):=by
 have s0:=s
 obtain ⟨pg,wt,nw,lg,mk,tn,tl,ops,s⟩:=cn.1 s
 refine Call.of_wp (J.free _ rfl) Tryz.func131 rfl rfl (zK 10 rfl (zf rfl (me _ _) ?_))
 refine zd rfl (bp rfl (s.ld (k:=0) rfl mJ rfl)) ?_ ?_
 ·intro I
  exact zk 7 rfl (WP.ret ⟨aa,_,rfl,.inl ⟨I,rfl,s0⟩⟩)
 ·intro I
  refine zk 7 rfl (zf rfl (MS _ _) (zl rfl (s.ld (k:=0) rfl cy rfl) (zc rfl (kW J (s.ae [5]) (d_ _ _) (by omega)) ?_)))
  intro v h s
  exact zk 3 rfl (WP.ret ⟨aa,_,rfl,.inr ⟨I,v,rfl,(cn.2 ⟨pg,wt,nw,lg,mk,tn,tl,ops,s.ae [2,2,2,2,2,1,1,1,0]⟩).ae [1]⟩⟩)
def Dk.fresh (aT room:Nat): Dk:={ room:=room,aT:=List.replicate aT none,waiting:=[],now:=[],log:=[],dS:=0,mark:=[],bJ := -1,dead:=false,Ar:=none,tail:=[] }
theorem M_ : ∃i,Tryz.prog.info? 28=some i∧i.size=1∧i.bytes=24 :=
 ⟨_,(show Tryz.prog.info? 28=some ((Tryz.prog.info? 28).getD default) by kernel_rfl),by kernel_rfl,by kernel_rfl⟩
theorem DR (v:V): ∀n:Nat,repeatL [v] n=List.replicate n v:=by
 intro n
 induction n with
 | zero=>rfl
 | succ n I=>simp only [repeatL,I,oT,gL,dh]
theorem Iv {a b:PM}: ∀n:Nat,(each r8 (List.replicate n .bq) (List.replicate n none)).p a b:=by
 intro n
 induction n with
 | zero=>trivial
 | succ n I=>exact ⟨rfl,I⟩
theorem KC (hT:W told){n m:Nat}(s:Sat h S)(hn:n<1073741824): Call ⟨Tryz.prog,told⟩ 88 [.int .i64 (n:Int),.int .i64 (m:Int)] h fun v h'=>∃p,v=.ptr p 0∧Sat h' (bj p (Dk.fresh n m)::S):=by
 refine Call.of_wp (hT.free _ rfl) Tryz.func88 rfl rfl (zK 8 rfl ?_)
 obtain ⟨i1,I,J,r9⟩:=M_
 obtain ⟨id,h1,e1,s1⟩:=A1 (P:=Tryz.prog) s fN I og J (by omega) rfl (by decide) hn
 refine az.any rfl rfl rfl (OpR.of (R:=fun v h'=>v=.sl id 0 n (.exact n)∧h'=h1) (sN rfl rfl e1) ⟨rfl,rfl⟩) ?_
 rintro v h ⟨rfl,rfl⟩
 have s:=s1
 dsimp only [V.cells] at s
 rw [cq,DR] at s
 refine az.Ac s rfl rfl rfl rfl (fun p8 h s => ?_)
 refine zo rfl (cW rfl (by rw [Qx]; rfl)) ?_
 refine az.cx s rfl rfl rfl (fB rfl rfl) (fun Wp h s => ?_)
 refine zk 2 rfl (WP.ret ⟨aa,_,rfl,?_⟩)
 have s:=(qc (f:=fun v b=>au.cr v b) (s.ae [1]))
 have s:=s.oJ.oJ.Ig
 have s:Sat _ (vN .bq []::_):=uC.2 ⟨[],(s.hO (φ:=True) aa).mN⟩
 have s:Sat _ (yz .cL none::_):=s.hO rfl
 have s:=s.ae [6,6]
 have hp:Sat _ (lG (.sl id 0 n (.exact n)) (List.replicate n none)::_):=mQ.2 ⟨id,List.replicate n .bq,by rw [c8],by
  rw [c8]
  exact (((s.ae [1]).hO (φ:=True) aa).gR fun a b _=>Iv n).ae [1]⟩
 dsimp only [V.cells,List.take,List.length_cons,List.length_nil,Nat.reduceAdd,List.drop,List.cons_append,List.nil_append,bk,bringA,getA] at hp
 exact ⟨_,rfl,cn.2 ⟨_,_,_,_,_,_,_,_,hp.ae [1,0,1,4,1,1,0,0]⟩⟩
theorem Na (hT:W told){n m:Int}(s:Sat h S): Call ⟨Tryz.prog,told⟩ 70 [.int .i64 n,.int .i64 m] h fun v h' =>
  (¬(1≤n∧n≤65536∧0≤m∧m≤16777216)∧v=.aX [.cL,.int .i64 1]∧Sat h' S) ∨
  (1≤n∧n≤65536∧0≤m∧m≤16777216∧∃p,v=.aX [.ptr p 0,.int .i64 0]∧Sat h' (bj p (Dk.fresh n.toNat m.toNat)::S)):=by
 refine Call.of_wp (hT.free _ rfl) Tryz.func70 rfl rfl (zK 9 rfl ?_)
 refine zd rfl (ag rfl rfl aO) ?_ ?_
 ·intro hq
  have hq:n<1:=by simpa using hq
  exact zk 19 rfl (WP.ret ⟨aa,_,rfl,.inl ⟨fun q=>by omega,rfl,s⟩⟩)
 ·intro hq
  have hq:1≤n:=by simpa using hq
  refine zk 2 rfl ?_
  refine zd rfl (ag rfl rfl gv) ?_ ?_
  ·intro I
   have I:65536<n:=by simpa using I
   exact zk 16 rfl (WP.ret ⟨aa,_,rfl,.inl ⟨fun q=>by omega,rfl,s⟩⟩)
  ·intro I
   have I:n≤65536:=by simpa using I
   refine zk 3 rfl ?_
   refine zd rfl (ag rfl rfl aO) ?_ ?_
   ·intro J
    have J:m<0:=by simpa using J
    exact zk 12 rfl (WP.ret ⟨aa,_,rfl,.inl ⟨fun q=>by omega,rfl,s⟩⟩)
   ·intro J
    have J:0≤m:=by simpa using J
    refine zk 3 rfl ?_
    refine zd rfl (ag rfl rfl gv) ?_ ?_
    ·intro mj
     have mj:16777216<m:=by simpa using mj
     exact zk 8 rfl (WP.ret ⟨aa,_,rfl,.inl ⟨fun q=>by omega,rfl,s⟩⟩)
    ·intro mj
     have mj:m≤16777216:=by simpa using mj
     refine zk 8 rfl ?_
     obtain ⟨n,rfl⟩:∃k:Nat,n=k:=⟨n.toNat,by omega⟩
     obtain ⟨m,rfl⟩:∃k:Nat,m=k:=⟨m.toNat,by omega⟩
     refine zc rfl (KC hT s (by omega)) ?_
     rintro v h ⟨p,rfl,s⟩
     exact zk 3 rfl (WP.ret ⟨aa,_,rfl,.inr ⟨hq,I,J,mj,p,rfl,s⟩⟩)
end
def leN : List Nat→Nat
 | []=>0
 | b::l=>b+256*leN l
theorem KD : ∀(l:List Nat) (b:Nat),leN (l++[b])=leN l+b*256^l.length:=by
 intro l
 induction l with
 | nil=>intro b; simp [leN]
 | cons x l I=>intro b; simp only [gL,leN,I,bf,rI,Nat.mul_add]; rw [←iw,rG (256^l.length) 256,←Nat.mul_assoc b,rG b 256,Nat.mul_assoc 256 b]
theorem Cx : ∀(l:List Nat),(∀b∈l,b<256)→leN l<256^l.length:=by
 intro l
 induction l with
 | nil=>intro _; simp [leN]
 | cons x l I =>
  intro h
  have h1:=I (fun b J=>h b (cJ _ J))
  have h2:=h x c9
  simp only [leN,bf,rI]
  omega
theorem Cy (i:Nat): (256:Nat)^i=2^(8*i):=by rw [Nat.pow_mul]
theorem S5 {P:Program}{h:H}{t:TypeId}{x y:Operand}{d i:Nat}(hd:d<256)(hi:i≤7): binV P h .shl t x y (.int .u64 (d:Int)) (.int .i64 (8*(i:Int)))=some (.int .u64 ((d*256^i:Nat):Int)):=by
 have J:(256:Nat)^i≤256^7:=ve (by omega) hi
 have I:d*256^i<18446744073709551616:=by
  have:d*256^i≤255*256^7:=vj (by omega) J
  omega
 simp only [binV,shiftV,IntKind.bits]
 have e:(8*(i:Int)).toNat=8*i:=by omega
 rw [e,show min (8*i) 64=8*i by omega,show decide (8*(i:Int)<0)=false by simp; omega,ay]
 have:(d:Int)*2^(8*i)=((d*256^i:Nat):Int):=by rw [Cy]; push_cast; rfl
 simp only [this,wrap_u64 I]
theorem Ux {P:Program}{h:H}{t:TypeId}{x y:Operand}{a d i:Nat}(I:a<256^i)(hd:d<256)(hi:i≤7): binV P h .or t x y (.int .u64 (a:Int)) (.int .u64 ((d*256^i:Nat):Int))=some (.int .u64 ((a+d*256^i:Nat):Int)):=by
 have J:(256:Nat)^i≤256^7:=ve (by omega) hi
 have hm:d*256^i≤255*256^7:=vj (by omega) J
 have h1:((a:Int)%(2^(IntKind.u64).bits:Int)).toNat=a:=by simp only [IntKind.bits]; omega
 have h2:(((d*256^i:Nat):Int)%(2^(IntKind.u64).bits:Int)).toNat=d*256^i:=by simp only [IntKind.bits]; omega
 have h3:Nat.lor a (d*256^i)=a+d*256^i:=by
  have e:d*256^i=2^(8*i)*d:=by rw [←Cy,rG]
  have:=Nat.two_pow_add_eq_or_of_lt (i:=8*i) (b:=a) (by rw [←Cy]; exact I) d
  rw [←e] at this
  rw [vm a,this]
  exact Nat.or_comm _ _
 simp only [binV,ikBeq,af,intV,bitsV,h1,h2,h3]
 rw [wrap_u64 (by omega)]
section
variable {told:cX} {h:H} {S:List au} {X:au} {k:Nat} {v:V} {l:List Nat}
noncomputable def Uy : Code:=fC [1,1,0,1,0,0] ((Tryz.f86.body).getD .skip)
theorem Iw (hv:View h v l)(hl:l.length≤8): ∀(j i:Nat) (E:List (Nat×V)) (Q:Ex→List (Nat×V)→H→Prop),i+j=l.length →
  Has E [(3,.int .u64 (leN (l.take i))),(6,v),(7,.int .i64 l.length),(8,.int .i64 i)]→(∀E',look E' 3=some (.int .u64 (leN l))→Q (.exit 0) E' h)→WP ⟨Tryz.prog,told⟩ 22 (.loop Uy) E h Q:=by
 intro j
 induction j with
 | zero =>
  intro i E Q hi hE hq
  refine WP.loop (WP.has hE (zg rfl (zh rfl (ag rfl rfl aO) (by simp; omega) ?_)))
  refine zk 3 rfl (WP.exit (hq _ ?_))
  rw [eA (by omega)]
  rfl
 | succ j ih =>
  intro i E Q hi hE hq
  have J:l[i]?=some (l[i]'(by omega)):=aN _
  generalize Eo:(l[i]'(by omega))=b at J
  have I:b<256:=hv.1 b (aU J)
  obtain ⟨id,off,e1,e2⟩:=c7 hv J
  have ht:l.take (i+1)=l.take i++[b]:=by rw [List.take_add_one,J]; rfl
  have br:leN (l.take i)<256^i:=by
   have:=Cx (l.take i) (fun x hx=>hv.1 x (gm hx))
   rwa [gM,o5 (by omega)] at this
  refine WP.loop (WP.has hE (zg rfl (zt rfl (ag rfl rfl aO) (by simp; omega) ?_)))
  refine zk 5 rfl (WP.block (zK 3 rfl (zo rfl (cI (r:=.ptr id off) rfl rfl e1) (zl rfl e2 (zk 6 rfl (zo rfl (cM rfl (by exact jf Tryz.underlying5 cS (fT (by omega) (by omega)))) ?_))))))
  refine zm rfl (zb rfl (by exact jD (aA (by omega) (by omega))) ?_)
  refine zb rfl (S5 I (by omega)) ?_
  refine zb rfl (Ux br I (by omega)) ?_
  refine za rfl (zv (zr rfl (zb rfl (by exact aV (aA (by omega) (by omega))) ?_)))
  refine zm rfl (zv ?_)
  refine ih (i+1) _ _ (by omega) ?_ hq
  rw [ht,KD,gM,o5 (by omega)]
  exact ⟨rfl,rfl,rfl,rfl,aa⟩
theorem As (J:W told)(s:Sat h S)(hk:getA S k=some X)(hX:cN X (cQ v l))(hl:l.length≤8): Call ⟨Tryz.prog,told⟩ 86 [v] h fun r h'=>r=.int .u64 (leN l)∧h'=h:=by
 have hv:=s.aK hk hX
 refine Call.of_wp (J.free _ rfl) Tryz.func86 rfl rfl (zK 12 rfl (zo rfl (aQ rfl rfl rfl (bw aM hv)) (zk 2 rfl (WP.block ?_))))
 refine Iw hv hl l.length 0 _ _ (by omega) ⟨rfl,rfl,rfl,rfl,aa⟩ (fun E' I => ?_)
 exact WP.has (F:=[(3,.int .u64 (leN l))]) ⟨I,aa⟩ (zK 5 rfl (WP.ret ⟨aa,_,rfl,rfl,rfl⟩))
theorem Ma (I:W told)(s:Sat h S)(J:getA S k=some X)(hX:cN X (cQ v l))(hl:l.length≤4611686018427387904): Call ⟨Tryz.prog,told⟩ 171 [v] h fun r h'=>r=.int .u32 (uD 0 l:Nat)∧h'=h:=by
 refine Call.of_wp (I.free _ rfl) Tryz.func171 rfl rfl (zK 7 rfl (zc rfl (M7 (s:=0) I s J hX (by decide) hl) ?_))
 rintro v h' ⟨rfl,rfl⟩
 exact zk 2 rfl (WP.ret ⟨aa,_,rfl,rfl,rfl⟩)
def cC (l:List Nat)(a z:Nat): Nat:=leN ((l.take (a+z)).drop a)
theorem qf (hT:W told){a z:Int}(s:Sat h S)(J:getA S k=some X)(hX:cN X (cQ v l))(ha:0≤a)(hz:1≤z)(Iy:z≤7)(hl:a+z≤l.length)(iN:l.length≤65536):
  Call ⟨Tryz.prog,told⟩ 154 [.agg [v],.int .i64 a,.int .i64 z] h fun r h'=>r=.int .i64 (cC l a.toNat z.toNat)∧Sat h' S:=by
 have hv:=s.aK J hX
 obtain ⟨pi,po,pc,rfl⟩:=gw hv (by omega)
 refine Call.of_wp (hT.free _ rfl) Tryz.func154 rfl rfl (zg rfl ?_)
 refine az.cx s rfl rfl rfl (fB rfl rfl) (fun p3 h s => ?_)
 refine zk 4 rfl (zf rfl (fe _ _) (zl rfl (s.ld (k:=0) rfl cy rfl) (zk 3 rfl (zb rfl (by exact aV (aA (by omega) (by omega))) ?_))))
 refine zk 2 rfl (zb rfl (by exact aV (aA (by omega) (by omega))) ?_)
 have j9:=wq (s.aK (jY J) hX) (a:=a.toNat) (b:=(a+z).toNat) (c:=(a+z).toNat) (by omega) (by omega) (by omega) (by omega)
 refine zo rfl (eD (p:=some (.int .i64 a)) (q:=some (.int .i64 (a+z))) (m:=some (.int .i64 (a+z))) rfl rfl rfl rfl (dZ ha) (dZ (by omega)) (dZ (by omega)) j9) ?_
 have hlen:((l.take (a+z).toNat).drop a.toNat).length=z.toNat:=by simp; omega
 refine zc rfl (As hT s (jY J) (A2 hX (a:=a.toNat) (b:=(a+z).toNat) (c:=(a+z).toNat) (by omega) (by omega) (by omega) (by omega)) (by omega)) ?_
 rintro r h' ⟨rfl,rfl⟩
 have I:=Cx ((l.take (a+z).toNat).drop a.toNat) (fun x hx=>hv.1 x (gm (gj hx)))
 have hp:256^z.toNat≤256^7:=ve (by omega) (by omega)
 rw [hlen] at I
 have e:(a+z).toNat=a.toNat+z.toNat:=by omega
 rw [e] at I ⊢
 refine zo rfl (cM rfl (by exact jf cS bG (aA (by omega) (by omega)))) ?_
 exact zk 2 rfl (WP.ret ⟨aa,_,rfl,rfl,s.drop⟩)
theorem uF {a z:Nat}(I:∀b∈l,b<256): cC l a z<256^z:=by
 have:=Cx ((l.take (a+z)).drop a) (fun x J=>I x (gm (gj J)))
 have h2:((l.take (a+z)).drop a).length≤z:=by simp; omega
 exact fZ this (ve (by omega) h2)
def iO (l:List Nat): Nat:=cC l 14 2
def fU (l:List Nat): Nat:=cC l 16 2
def cA (l:List Nat)(i:Nat): Nat:=cC l (26+4*i) 2
def fV (l:List Nat)(i:Nat): Nat:=cC l (26+4*i+2) 2
theorem jl (I:W told)(s:Sat h S)(J:getA S k=some X)(hX:cN X (cQ v l))(hl:l.length=512):
  Call ⟨Tryz.prog,told⟩ 101 [.agg [v]] h fun r h'=>r=.int .i64 (iO l)∧Sat h' S:=by
 have hv:=s.aK J hX
 obtain ⟨pi,po,pc,rfl⟩:=gw hv (by omega)
 refine Call.of_wp (I.free _ rfl) Tryz.func101 rfl rfl (zg rfl ?_)
 refine az.cx s rfl rfl rfl (fB rfl rfl) (fun p1 h s => ?_)
 refine zk 4 rfl (zl rfl (s.cG (k:=0) rfl bM aW) (zc rfl (qf I s (jY J) hX (by decide) (by decide) (by decide) (by omega) (by omega)) ?_))
 rintro r h' ⟨rfl,s⟩
 exact zk 2 rfl (WP.ret ⟨aa,_,rfl,rfl,s.drop⟩)
theorem Cz (I:W told)(s:Sat h S)(J:getA S k=some X)(hX:cN X (cQ v l))(hl:l.length=512):
  Call ⟨Tryz.prog,told⟩ 156 [.agg [v]] h fun r h'=>r=.int .i64 (fU l)∧Sat h' S:=by
 have hv:=s.aK J hX
 obtain ⟨pi,po,pc,rfl⟩:=gw hv (by omega)
 refine Call.of_wp (I.free _ rfl) Tryz.func156 rfl rfl (zg rfl ?_)
 refine az.cx s rfl rfl rfl (fB rfl rfl) (fun p1 h s => ?_)
 refine zk 4 rfl (zl rfl (s.cG (k:=0) rfl bM aW) (zc rfl (qf I s (jY J) hX (by decide) (by decide) (by decide) (by omega) (by omega)) ?_))
 rintro r h' ⟨rfl,s⟩
 exact zk 2 rfl (WP.ret ⟨aa,_,rfl,rfl,s.drop⟩)
end
def jJ (t:List Bool): List V:=t.map V.bool
theorem Au (t:List Bool)(k:Nat)(b:Bool): (jJ t).set k (.bool b)=jJ (t.set k b):=by simp [jJ,List.map_set]
theorem EY {t:List Bool}{k:Nat}(I:k<t.length): nth (jJ t) k=some (.bool (t.getD k false)):=by
 rw [eE]; simp [jJ,aN I]
theorem KE : zeroT Tryz.prog 227=some (.agg (jJ (List.replicate 512 false))):=by kernel_rfl
def markL : Nat→Nat→List Bool→Option (List Bool)
 | 0,_,t=>some t
 | n+1,k,t=>if t.getD k false then none else markL n (k+1) (t.set k true)
def cellsL (l:List Nat)(low:Nat): Nat→Nat→List Bool→Bool
 | 0,_,_=>true
 | n+1,i,t=>if cA l i<low∨512<cA l i+fV l i then false else match markL (fV l i) (cA l i) t with
  | none=>false
  | some t'=>cellsL l low n (i+1) t'
def bN (l:List Nat): Bool:=decide (l.length=512)&&(decide (l.getD 13 0=0)&&(decide (26+4*iO l≤fU l∧fU l≤512)&&cellsL l (fU l) (iO l) 0 (List.replicate 512 false)))
theorem Iz : ∀(n k:Nat) (t t':List Bool),markL n k t=some t'→t'.length=t.length:=by
 intro n
 induction n with
 | zero=>intro k t t' h; simp only [markL] at h; injection h with h; subst h; rfl
 | succ n I =>
  intro k t t' h
  simp only [markL] at h
  split at h
  ·cases h
  ·have:=I _ _ _ h; simpa using this
section
variable {told:cX} {h:H} {S:List au} {X:au} {k:Nat} {v:V} {l:List Nat}
theorem vO (I:W told){i:Nat}(s:Sat h S)(J:getA S k=some X)(hX:cN X (cQ v l))(hl:l.length=512)(hi:30+4*i≤512):
  Call ⟨Tryz.prog,told⟩ 155 [.agg [v],.int .i64 (i:Int)] h fun r h'=>r=.aX [.int .i64 (cA l i),.int .i64 (fV l i)]∧Sat h' S:=by
 have hv:=s.aK J hX
 obtain ⟨pi,po,pc,rfl⟩:=gw hv (by omega)
 have e1:(26+4*(i:Int)).toNat=26+4*i:=by omega
 have e2:(26+4*(i:Int)+2).toNat=26+4*i+2:=by omega
 refine Call.of_wp (I.free _ rfl) Tryz.func155 rfl rfl (zg rfl ?_)
 refine az.cx s rfl rfl rfl (fB rfl rfl) (fun p2 h s => ?_)
 refine zk 6 rfl (zb rfl (by exact jD (aA (by omega) (by omega))) ?_)
 refine zb rfl (by exact aV (aA (by omega) (by omega))) ?_
 refine zk 3 rfl ?_
 have s0:=s
 refine WP.drawn [ak,ak,ak,some (0,2),some (0,2),some (0,2),ak,ak,ak] rfl (by kernel_rfl) (by kernel_rfl) ?_
 refine zL rfl (s.cG (k:=0) rfl bM aW) (zM rfl (aD.any rfl rfl rfl rfl (OpR.call rfl rfl rfl rfl (qf I s (jY J) hX (by omega) (by decide) (by decide) (by omega) (by omega))) ?_))
 rintro r h' ⟨rfl,s⟩
 rw [e1]
 have s1:=s
 refine zL rfl (s.cG (k:=0) rfl bM aW) (zM rfl (zO rfl (ag rfl rfl (by exact aV (aA (by omega) (by omega)))) ?_))
 refine aD.any rfl rfl rfl rfl (OpR.call rfl rfl rfl rfl (qf I s (jY J) hX (by omega) (by decide) (by decide) (by omega) (by omega))) ?_
 rintro r h' ⟨rfl,s⟩
 rw [e2]
 refine zA rfl (zA rfl ?_)
 refine aD.nil ⟨⟨aa,aa,aa,fh (.inr ⟨rfl,⟨_,bp rfl (s0.cG (k:=0) rfl bM aW)⟩,bP _ rfl⟩) (.inr ⟨rfl,⟨_,bp rfl (s1.cG (k:=0) rfl bM aW)⟩,bP _ rfl⟩),fun _ _=>.inr ⟨rfl,⟨_,bT rfl⟩,bP _ rfl⟩,fun _ _=>.inr ⟨rfl,⟨_,ag rfl rfl (by exact aV (aA (by omega) (by omega)))⟩,bP _ rfl⟩,aa,aa,aa,aa⟩,?_⟩
 refine WP.ret ⟨aa,_,rfl,?_⟩
 exact ⟨rfl,s.drop⟩
noncomputable def Uz : Code:=fC [1,1,1,1,1,1,0,1,0,0] ((Tryz.f107.body).getD .skip)
noncomputable def UA : Code:=fC [1,1,1,1,1,1,0,1,0,0,1,1,0,0,1,1,1,1,0,0] ((Tryz.f107.body).getD .skip)
theorem Gq {I a z:Nat}{v3 v4 v5 v35 v36:V}(Wq:a+z≤512): ∀(m q:Nat) (t:List Bool) (h:H) (E:List (Nat×V)) (Q:Ex→List (Nat×V)→H→Prop),q+m=a+z→t.length=512 →
  Sat h (pt I (.cells 512 (jJ t) false)::S)→Has E [(3,v3),(4,v4),(5,v5),(6,.ptr I 0),(8,.int .i64 (a:Int)),(9,.int .i64 (z:Int)),(10,.int .i64 (q:Int)),(35,v35),(36,v36)] →
  (markL m q t=none→∀E' h',look E' 2=some (.bool false)→Sat h' S→Q .ret E' h') →
  (∀t' E' h',markL m q t=some t'→Has E' [(3,v3),(4,v4),(5,v5),(6,.ptr I 0),(35,v35),(36,v36)]→Sat h' (pt I (.cells 512 (jJ t') false)::S)→Q (.exit 2) E' h') →
  WP ⟨Tryz.prog,told⟩ 68 (.loop UA) E h Q:=by
 intro m
 induction m with
 | zero =>
  intro q t h E Q hq ht s hE hr hx
  refine WP.loop (WP.has hE (zK 6 rfl (zb rfl (by exact aV (aA (by omega) (by omega))) ?_)))
  refine zh rfl (ag rfl rfl aO) (by simp; omega) ?_
  exact zk 2 rfl (WP.exit (hx t _ _ rfl ⟨rfl,rfl,rfl,rfl,rfl,rfl,aa⟩ s))
 | succ m ih =>
  intro q t h E Q hq ht s hE hr hx
  have J:q<t.length:=by omega
  refine WP.loop (WP.has hE (zK 6 rfl (zb rfl (by exact aV (aA (by omega) (by omega))) ?_)))
  refine zt rfl (ag rfl rfl aO) (by simp; omega) ?_
  refine zk 4 rfl (WP.block (zK 4 rfl (zo rfl (cI (r:=.ptr I q) rfl rfl (by rw [L2,show (decide ((0:Int)≤(q:Int))&&decide ((q:Int)<((512:Nat):Int)))=true by simp; omega,af]; simp)) ?_)))
  cases hm:t.getD q false with
  | true =>
   refine zt rfl (bp rfl (s.ld (k:=0) rfl mJ (EY J))) (hm) (zk 6 rfl (WP.ret ?_))
   refine hr ?_ _ _ rfl s.drop
   rw [markL,aq hm]
  | false =>
   refine zh rfl (bp rfl (s.ld (k:=0) rfl mJ (EY J))) (hm) (zk 5 rfl (zo rfl (cI (r:=.ptr I q) rfl rfl (by rw [L2,show (decide ((0:Int)≤(q:Int))&&decide ((q:Int)<((512:Nat):Int)))=true by simp; omega,af]; simp)) ?_))
   refine zS rfl (s.je (k:=0) rfl rT (by simp [jJ,ht]) (by omega) rfl rfl) ?_
   intro h s
   dsimp only [setA] at s
   rw [Au] at s
   refine zv (zr rfl (zm rfl (zb rfl (by exact aV (aA (by omega) (by omega))) ?_)))
   refine za rfl (zv ?_)
   have e:markL (m+1) q t=markL m (q+1) (t.set q true):=by rw [markL,ai (by rw [hm]; decide)]
   rw [e] at hr hx
   exact ih (q+1) (t.set q true) h _ Q (by omega) (by simp [ht]) s ⟨rfl,rfl,rfl,rfl,rfl,rfl,rfl,rfl,rfl,aa⟩ hr hx
theorem Gr (hT:W told){p6 p3:Nat}{n low:Nat}{x:V}(hX:cN X (cQ x l))(hl:l.length=512)(br:∀b∈l,b<256)(EA:x.cells=[x])(Ws:storable x=true)(hn:n=iO l)(uG:26+4*n≤low)(VT:low≤512): ∀(m i:Nat) (t:List Bool) (h:H) (E:List (Nat×V)) (Q:Ex→List (Nat×V)→H→Prop),i+m=n→t.length=512 →
  Sat h (pt p6 (.cells 512 (jJ t) false)::pt p3 (.cells 1 [x] false)::X::S)→Has E [(3,.ptr p3 0),(4,.int .i64 (n:Int)),(5,.int .i64 (low:Int)),(6,.ptr p6 0),(35,.int .i64 (n:Int)),(36,.int .i64 (i:Int))] →
  (cellsL l low m i t=false→∀E' h',look E' 2=some (.bool false)→Sat h' (X::S)→Q .ret E' h') →
  (cellsL l low m i t=true→∀E' h',Sat h' (X::S)→Q (.exit 0) E' h') →
  WP ⟨Tryz.prog,told⟩ 68 (.loop Uz) E h Q:=by
 intro m
 induction m with
 | zero =>
  intro i t h E Q hi ht s hE J hx
  refine WP.loop (WP.has hE (zg rfl (zh rfl (ag rfl rfl aO) (by simp; omega) ?_)))
  exact zk 3 rfl (WP.exit (hx rfl _ _ s.drop.drop))
 | succ m ih =>
  intro i t h E Q hi ht s hE J hx
  have hf:=uF (l:=l) (a:=26+4*i) (z:=2) br
  have hz:=uF (l:=l) (a:=26+4*i+2) (z:=2) br
  have ef:cA l i=cC l (26+4*i) 2:=rfl
  have ez:fV l i=cC l (26+4*i+2) 2:=rfl
  refine WP.loop (WP.has hE (zg rfl (zt rfl (ag rfl rfl aO) (by simp; omega) ?_)))
  refine zk 5 rfl (WP.block (zK 7 rfl (zl rfl (s.cG (k:=1) rfl bM aW) (zm rfl (zc rfl (vO (i:=i) hT s (k:=2) rfl hX hl (by omega)) ?_)))))
  rintro r h' ⟨rfl,s⟩
  refine zk 11 rfl ?_
  refine zd rfl (ag rfl rfl aO) ?_ ?_
  ·intro hq
   have hq:cA l i<low:=by simp at hq; omega
   refine zk 12 rfl (WP.ret ?_)
   refine J ?_ _ _ rfl s.drop.drop
   rw [cellsL,aq (.inl hq)]
  ·intro hq
   have hq:low≤cA l i:=by simp at hq; omega
   refine zk 3 rfl (zb rfl (by exact aV (aA (by omega) (by omega))) ?_)
   refine zd rfl (ag rfl rfl gv) ?_ ?_
   ·intro I
    have I:512<cA l i+fV l i:=by simp at I; omega
    refine zk 7 rfl (WP.ret ?_)
    refine J ?_ _ _ rfl s.drop.drop
    rw [cellsL,aq (.inr I)]
   ·intro I
    have I:cA l i+fV l i≤512:=by simp at I; omega
    refine zk 9 rfl (WP.block ?_)
    have e:cellsL l low (m+1) i t=(match markL (fV l i) (cA l i) t with | none=>false | some t'=>cellsL l low m (i+1) t'):=by rw [cellsL,ai (by omega)]
    rw [e] at J hx
    refine Gq I (fV l i) (cA l i) t _ _ _ rfl ht s ⟨rfl,rfl,rfl,rfl,rfl,rfl,rfl,rfl,rfl,aa⟩ (fun hm E' h' h2 s' => ?_) (fun t' E' h' hm kB s' => ?_)
    ·rw [hm] at J
     exact J rfl _ _ h2 s'.drop
    ·rw [hm] at J hx
     refine WP.has kB (zr rfl (zb rfl (by exact aV (aA (by omega) (by omega))) ?_))
     refine zm rfl (zv ?_)
     exact ih (i+1) t' h' _ Q (by omega) (by rw [Iz _ _ _ _ hm,ht]) s' ⟨rfl,rfl,rfl,rfl,rfl,rfl,aa⟩ J hx
theorem EZ (hT:W told)(s:Sat h (X::S))(hX:cN X (cQ v l))(iN:l.length<9223372036854775808):
  Call ⟨Tryz.prog,told⟩ 107 [v] h fun r h'=>r=.bool (bN l)∧Sat h' (X::S):=by
 have hv:=s.aK (k:=0) rfl hX
 refine Call.of_wp (hT.free _ rfl) Tryz.func107 rfl rfl (zK 8 rfl (zo rfl (aQ rfl rfl rfl (bw aM (s.aK (k:=0) rfl hX))) ?_))
 refine zd rfl (ag rfl rfl aF) ?_ ?_
 ·intro hq
  have hq:l.length≠512:=by simp at hq; omega
  exact zk 12 rfl (WP.ret ⟨aa,_,rfl,by rw [bN,cU hq,e_],s⟩)
 ·intro hq
  have hq:l.length=512:=by simp at hq; omega
  have hb:l[13]?=some (l[13]'(by omega)):=aN _
  generalize Eo:(l[13]'(by omega))=b at hb
  have tD:l.getD 13 0=b:=by rw [dF,hb]; rfl
  obtain ⟨id,off,e1,e2⟩:=c7 hv hb
  refine zk 2 rfl (zo rfl (cI (r:=.ptr id off) rfl rfl e1) (zl rfl e2 ?_))
  refine zd rfl (ag rfl rfl aF) ?_ ?_
  ·intro I
   have I:b≠0:=by simp at I; omega
   exact zk 7 rfl (WP.ret ⟨aa,_,rfl,by rw [bN,cK hq,tD,cU I,e_,rC],s⟩)
  ·intro I
   have I:b=0:=by simp at I; omega
   obtain ⟨pi,po,pc,rfl⟩:=gw hv (by omega)
   refine zk 7 rfl (zo rfl (cW rfl (by rw [vF]; rfl)) ?_)
   refine az.cx s rfl rfl rfl (cz h_) (fun p3 h s => ?_)
   refine zS rfl (s.ik (j:=0) rfl aW rfl rfl) (fun h s => ?_)
   refine zk 2 rfl ?_
   have s0:=s
   refine WP.drawn [none,none,some (0,2),ak,ak,ak] rfl (by kernel_rfl) (by kernel_rfl) ?_
   refine zL rfl (s.cG (k:=0) rfl bM aW) (aD.any rfl rfl rfl rfl (OpR.call rfl rfl rfl rfl (jl hT s (k:=1) rfl hX hq)) ?_)
   rintro r h' ⟨rfl,s⟩
   have s1:=s
   refine zL rfl (s.cG (k:=0) rfl bM aW) (aD.any rfl rfl rfl rfl (OpR.call rfl rfl rfl rfl (Cz hT s (k:=1) rfl hX hq)) ?_)
   rintro r h' ⟨rfl,s⟩
   refine zA rfl (zA rfl ?_)
   refine aD.nil ⟨⟨aa,aa,fh (.inr ⟨rfl,⟨_,bp rfl (s0.cG (k:=0) rfl bM aW)⟩,bP _ rfl⟩) (.inr ⟨rfl,⟨_,bp rfl (s1.cG (k:=0) rfl bM aW)⟩,bP _ rfl⟩),aa,aa,aa,aa⟩,?_⟩
   have Ho:=uF (l:=l) (a:=14) (z:=2) hv.1
   have tv:=uF (l:=l) (a:=16) (z:=2) hv.1
   have ec:iO l=cC l 14 2:=rfl
   have el:fU l=cC l 16 2:=rfl
   refine zK 4 rfl (zb rfl (by exact jD (aA (by omega) (by omega))) ?_)
   refine zb rfl (by exact aV (aA (by omega) (by omega))) ?_
   refine zm rfl ?_
   refine zd rfl (ag rfl rfl gv) ?_ ?_
   ·intro J
    have J:fU l<26+4*iO l:=by simp at J; omega
    exact zk 10 rfl (WP.ret ⟨aa,_,rfl,by rw [bN,cK hq,tD,cK I,cU (by omega:¬(26+4*iO l≤fU l∧fU l≤512))]; rfl,s.drop⟩)
   ·intro J
    have J:26+4*iO l≤fU l:=by simp at J; omega
    refine zk 2 rfl ?_
    refine zd rfl (ag rfl rfl gv) ?_ ?_
    ·intro mj
     have mj:512<fU l:=by simp at mj; omega
     exact zk 7 rfl (WP.ret ⟨aa,_,rfl,by rw [bN,cK hq,tD,cK I,cU (by omega:¬(26+4*iO l≤fU l∧fU l≤512))]; rfl,s.drop⟩)
    ·intro mj
     have mj:fU l≤512:=by simp at mj; omega
     refine zk 6 rfl (az.cx s rfl rfl rfl (cz KE) ?_)
     intro p6 h s
     have BR:(jJ (List.replicate 512 false)).length=512:=by rw [jJ,eM,c8]
     dsimp only [V.cells] at s
     rw [BR] at s
     refine zk 7 rfl (WP.block ?_)
     have hg:bN l=cellsL l (fU l) (iO l) 0 (List.replicate 512 false):=by
      rw [bN,cK hq,tD,cK I,cK (⟨J,mj⟩:26+4*iO l≤fU l∧fU l≤512)]; rfl
     refine Gr hT hX hq hv.1 rfl rfl rfl J mj (iO l) 0 (List.replicate 512 false) _ _ _ (by omega) c8 s ⟨rfl,rfl,rfl,rfl,rfl,rfl,aa⟩ (fun hc E' h' h2 s' => ?_) (fun hc E' h' s' => ?_)
     ·rw [hg,hc]
      exact ⟨aa,_,Ch h2,rfl,s'⟩
     ·rw [hg,hc]
      exact WP.has (F:=[]) aa (zK 4 rfl (WP.ret ⟨aa,_,rfl,rfl,s'⟩))
end
end Go.Proofs.YtefepnnfphdkpaaGreat.Am
