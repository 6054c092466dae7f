/- After a crash the log has the records of the groups that are there and no others, with their numbers and data; the conditions are those of the given statement, for arguments that a machine can hold. Part 40 of 54. -/
import Derived.Test.YtconhghphklfjaaGreatL39
namespace Go.Proofs.YtconhghphklfjaaGreat.Am
open Go
section
variable {told:Nat→Option (List V→H→Option (V×H))} {h:H} {S:List ah} {X Y:ah} {r k q p bw a g aK:Nat} {op v x u wh di:V} {l b c8 data jM:List Nat} {now:List (Int×List Nat)} {bq:Bool} {ε:aM} {μ:Lg} {δ:Dk}
theorem sY (I:W told)(s:Sat h (cz a p q r op data aK::S)): Call ⟨Tryz.prog,told⟩ 19 [.ptr a 0] h fun v h'=>v=.ptr q 0∧h'=h:=by
 obtain ⟨dv,s⟩:=bQ.1 s
 refine Call.of_wp (I.free _ rfl) Tryz.func19 rfl rfl (zg rfl (za rfl (zv (zg rfl (zm rfl (zn rfl (zf rfl (rL _ _) (zl rfl (by exact s.ld (k:=0) rfl wL rfl) ?_))))))))
 refine za rfl (zv ?_)
 refine WP.ret ⟨trivial,_,rfl,?_⟩
 exact ⟨rfl,rfl⟩
end
end Go.Proofs.YtconhghphklfjaaGreat.Am
namespace Go.Proofs.YtconhghphklfjaaGreat.Am
open Go
section
variable {told:Nat→Option (List V→H→Option (V×H))} {h:H} {S:List ah} {X Y:ah} {r k q p bw a g aK:Nat} {op v x u wh di:V} {l b c8 data jM:List Nat} {now:List (Int×List Nat)} {bq:Bool} {ε:aM} {μ:Lg} {δ:Dk}
theorem Eh (I:W told){n m f:Nat}(s:Sat h S)(h1:1≤n)(h2:n≤65536)(h3:m≤16777216)(J:1≤f)(U:f≤1024):
  Call ⟨Tryz.prog,told⟩ 12 [.int .i64 (n:Int),.int .i64 (m:Int),.int .i64 (f:Int)] h fun v h'=>∃p a q r,v=.aW [.ptr p 0,.ptr a 0] ∧
   Sat h' (cz a p q r .bI [] 0::cB r p q (Pl.fresh f)::bj q p Lg.fresh::az p (Dk.fresh n m)::S):=by
 refine Call.of_wp (I.free _ rfl) Tryz.func12 rfl rfl (zg rfl (za rfl (za rfl (zv (zg rfl (zm rfl (zm rfl (ae.call rfl rfl rfl rfl rfl rfl rfl (Ll (n:=(n:Int)) (m:=(m:Int)) I s) ?_))))))))
 rintro v h (⟨hn,_,_⟩ | ⟨_,_,_,_,p,rfl,s⟩)
 ·omega
 rw [Int.toNat_natCast,Int.toNat_natCast] at s
 refine zm rfl (ze rfl (ze rfl (za rfl (za rfl (zv (zw (zg rfl (zm rfl (ae.aE rfl rfl rfl (af rfl rfl aN) (rfl) (zm rfl (zm rfl (ae.aE rfl rfl rfl (af rfl rfl (vN Tryz.underlying23)) (rfl) (zp rfl (zv (zj rfl (WP.skip (zg rfl (zm rfl (zm rfl (ae.call rfl rfl rfl rfl rfl rfl rfl (BZ (n:=f) I s J U rfl rfl rfl rfl) ?_))))))))))))))))))))
 rintro v h ⟨a,q,r,rfl,s⟩
 refine zm rfl (ze rfl (ze rfl (za rfl (za rfl (zv (zw (zg rfl (zm rfl (ae.aE rfl rfl rfl (af rfl rfl aN) (rfl) (zm rfl (zm rfl (ae.aE rfl rfl rfl (af rfl rfl (vN Tryz.underlying24)) (rfl) (zp rfl (zv (zj rfl (WP.skip (zg rfl (zm rfl (zm rfl (za rfl (za rfl (zv ?_))))))))))))))))))))))
 refine WP.ret ⟨trivial,_,rfl,?_⟩
 exact ⟨p,a,q,r,rfl,s⟩
end
end Go.Proofs.YtconhghphklfjaaGreat.Am
namespace Go.Proofs.YtconhghphklfjaaGreat.Am
open Go
section
variable {P:Program} {h:H} {S:List ah} {k:Nat}
theorem LL (s:Sat h S){t e:TypeId}{z:V}(hu:P.underlying t=some (.slice e))(I:zeroT P e=some z)(J:aY P e=some k)(U:z.cells.length=k)(h1:1≤k):
  ∃h',buildSliceV P h t 0 []=some (.sl h.next 0 0 (.exact 0),h')∧Sat h' (pt h.next (.cells 0 [] false)::S):=by
 refine ⟨newRow h [],?_,s.new _⟩
 simp only [buildSliceV,hu,J,I]
 rw [show (Nat.beq z.cells.length k&&Nat.ble (0*k) 65536&&Nat.ble 1 k)=true by rw [U,Nat.beq_refl,ay.2 (by omega),ay.2 h1]; rfl,cond_true]
 simp only [repeatL,fillV,List.all_nil,cond_true]
theorem LM {id q:Nat}(s:Sat h (pt id (.cells 0 [] false)::S)): Sat h (.arr q (.sl id 0 0 (.exact 0)) []::S) :=
 s.dY fun m r hm=>⟨rfl,.inr ⟨id,0,.exact 0,0,[],rfl,hm,by simp,rfl,rfl,by simp,Nat.le_refl _⟩⟩
end
section
variable {told:Nat→Option (List V→H→Option (V×H))} {h:H} {S:List ah} {X Y:ah} {r k q p bw a g aK:Nat} {op v x u wh di:V} {l b c8 data jM:List Nat} {μ:Lg} {δ:Dk}
end
end Go.Proofs.YtconhghphklfjaaGreat.Am
namespace Go.Proofs.YtconhghphklfjaaGreat.Am
open Go
section
variable {told:Nat→Option (List V→H→Option (V×H))} {h:H} {S:List ah} {X Y:ah} {r k q p bw a g aK:Nat} {op v x u wh di:V} {l b c8 data jM:List Nat} {μ:Lg} {δ:Dk}
end
end Go.Proofs.YtconhghphklfjaaGreat.Am
namespace Go.Proofs.YtconhghphklfjaaGreat.Am
open Go
section
variable {told:Nat→Option (List V→H→Option (V×H))} {h:H} {S:List ah} {X Y:ah} {r k q p bw a g aK:Nat} {op v x u wh di:V} {l b c8 data jM:List Nat} {μ:Lg} {δ:Dk}
end
end Go.Proofs.YtconhghphklfjaaGreat.Am
namespace Go.Proofs.YtconhghphklfjaaGreat.Am
open Go
section
variable {told:Nat→Option (List V→H→Option (V×H))} {h:H} {S:List ah} {X Y:ah} {r k q p bw a g aK:Nat} {op v x u wh di:V} {l b c8 data jM:List Nat} {μ:Lg} {δ:Dk}
end
end Go.Proofs.YtconhghphklfjaaGreat.Am
namespace Go.Proofs.YtconhghphklfjaaGreat.Am
open Go
section
variable {told:Nat→Option (List V→H→Option (V×H))} {h:H} {S:List ah} {X Y:ah} {r k q p bw a g aK:Nat} {op v x u wh di:V} {l b c8 data jM:List Nat} {now:List (Int×List Nat)} {bq:Bool} {ε:aM} {μ:Lg} {δ:Dk} {π:Pl}
end
end Go.Proofs.YtconhghphklfjaaGreat.Am
namespace Go.Proofs.YtconhghphklfjaaGreat.Am
open Go
section
variable {told:Nat→Option (List V→H→Option (V×H))} {h:H} {S:List ah} {X Y:ah} {r k q p bw a g aK:Nat} {op v x u wh di:V} {l b c8 data jM:List Nat} {ε:aM}
end
end Go.Proofs.YtconhghphklfjaaGreat.Am
namespace Go.Proofs.YtconhghphklfjaaGreat.Am
open Go
theorem GP : ∃i,Tryz.prog.info? 4=some i∧i.size=1∧i.bytes=1 :=
 ⟨_,(show Tryz.prog.info? 4=some ((Tryz.prog.info? 4).getD default) by kernel_rfl),by kernel_rfl,by kernel_rfl⟩
theorem LN : ∀n:Nat,repeatL [V.bool false] n=lJ (List.replicate n false):=by
 intro n
 induction n with
 | zero=>rfl
 | succ n I=>simp only [repeatL,I,lJ,List.replicate_succ,List.map_cons]; rfl
theorem Po {P:Program}{h:H}{t:TypeId}{x y:Operand}{n:Nat}(I:n<72057594037927936): binV P h .shl t x y (.int .u64 (n:Int)) (.int .u64 8)=some (.int .u64 ((n*256:Nat):Int)):=by
 simp only [binV,shiftV,IntKind.bits]
 rw [show min ((8:Int).toNat) 64=8 from rfl,show decide ((8:Int)<0)=false from rfl,cond_false]
 have:(n:Int)*2^8=((n*256:Nat):Int):=by rw [show (2:Int)^8=256 from rfl]; omega
 rw [this,wrap_u64 (by omega)]
theorem R3 {P:Program}{h:H}{t:TypeId}{x y:Operand}{a d:Nat}(ha:a<72057594037927936)(hd:d<256): binV P h .or t x y (.int .u64 ((a*256:Nat):Int)) (.int .u64 (d:Int))=some (.int .u64 ((d+256*a:Nat):Int)):=by
 have I:(((a*256:Nat):Int)%(2^(IntKind.u64).bits:Int)).toNat=a*256:=by simp only [IntKind.bits]; omega
 have J:((d:Int)%(2^(IntKind.u64).bits:Int)).toNat=d:=by simp only [IntKind.bits]; omega
 have U:Nat.lor (a*256) d=d+256*a:=by
  have:=Nat.two_pow_add_eq_or_of_lt (i:=8) (b:=d) (by omega) a
  rw [show a*256=2^8*a by omega,Nat.add_comm]
  exact this.symm
 simp only [binV,ikBeq,cond_true,intV,bitsV,I,J,U]
 rw [wrap_u64 (by omega)]
section
variable {told:Nat→Option (List V→H→Option (V×H))} {h:H} {S:List ah} {X:ah} {k:Nat} {v:V} {l:List Nat}
noncomputable def T6 : Code:=cn [1,1,0,1,0,0] ((Tryz.f155.body).getD .skip)
theorem GQ {a z:Nat}(J:View h v l)(hz:z≤7)(hl:a+z≤l.length)(iq:l.length≤65536): ∀(i:Nat) (E:List (Nat×V)) (Q:Ex→List (Nat×V)→H→Prop),i≤z →
  Has E [(0,v),(1,.int .i64 (a:Int)),(7,.int .u64 (leN ((l.take (a+z)).drop (a+i)):Nat)),(8,.int .i64 ((i:Int)-1))]→(∀E',look E' 7=some (.int .u64 (dm l a z:Nat))→Q (.exit 0) E' h)→WP ⟨Tryz.prog,told⟩ 26 (.loop T6) E h Q:=by
 intro i
 induction i with
 | zero =>
  intro E Q hi I U
  refine WP.loop (WP.has I (zw (zg rfl (zm rfl (ae.aE rfl rfl rfl (af rfl rfl kZ) (by simp <;> omega) ?_)))))
  refine zv (zj rfl (WP.exit ?_))
  exact U _ rfl
 | succ i ih =>
  intro E Q hi I U
  have hb:l[a+i]?=some (l[a+i]'(by omega)):=List.getElem?_eq_getElem _
  generalize uX:(l[a+i]'(by omega))=b at hb
  have zu:b<256:=J.1 b (List.mem_of_getElem? hb)
  obtain ⟨id,off,e1,e2⟩:=eS J hb
  have ed:(l.take (a+z)).drop (a+i)=b::(l.take (a+z)).drop (a+(i+1)):=by
   have h1:a+i<(l.take (a+z)).length:=by rw [List.length_take]; omega
   rw [List.drop_eq_getElem_cons h1,List.getElem_take,uX]; rfl
  have bB:=rT ((l.take (a+z)).drop (a+(i+1))) (fun x hx=>J.1 x (List.mem_of_mem_take (List.mem_of_mem_drop hx)))
  have hlen:((l.take (a+z)).drop (a+(i+1))).length≤6:=by simp; omega
  have hp:=Nat.pow_le_pow_right (n:=256) (by omega) hlen
  have e3:((i+1:Nat):Int)-1=(i:Int):=by omega
  have e4:(a:Int)+(i:Int)=((a+i:Nat):Int):=by omega
  rw [e3] at I
  refine WP.loop (WP.has I (zw (zg rfl (zm rfl (ae.aR rfl rfl rfl (af rfl rfl kZ) (by simp <;> omega) ?_)))))
  refine zv (zi rfl (WP.skip (zw (WP.block (zr rfl (zm rfl (zb rfl (Po (by omega)) ?_)))))))
  refine zm rfl (zm rfl (zm rfl (zb rfl (by exact bl (aF (by omega) (by omega))) ?_)))
  rw [e4]
  refine zo rfl (cH (r:=.ptr id off) rfl rfl e1) (zl rfl e2 (zo rfl (bz rfl (by exact gC Tryz.underlying5 Tryz.underlying35 (dM (by omega) (by omega)))) ?_))
  refine zb rfl (R3 (by omega) zu) ?_
  refine za rfl (zv (zr rfl (zm rfl (zb rfl (by exact lR (aF (by omega) (by omega))) ?_))))
  refine za rfl (zv ?_)
  refine ih _ Q (by omega) ?_ U
  rw [ed,leN]
  exact ⟨rfl,rfl,rfl,rfl,trivial⟩
theorem LO (U:W told){a z:Nat}(s:Sat h S)(hk:getA S k=some X)(hX:bU X (bZ v l))(hz:z≤7)(hl:a+z≤l.length)(I:l.length≤65536):
  Call ⟨Tryz.prog,told⟩ 155 [v,.int .i64 (a:Int),.int .i64 (z:Int)] h fun r h'=>r=.int .u64 (dm l a z:Nat)∧h'=h:=by
 have hv:=s.ax hk hX
 refine Call.of_wp (U.free _ rfl) Tryz.func155 rfl rfl (zg rfl (za rfl (zv (zg rfl (za rfl (zv (zw (zg rfl (zm rfl (zb rfl (by exact lR (aF (by omega) (by omega))) ?_))))))))))
 refine za rfl (zv (WP.block ?_))
 refine GQ (a:=a) (z:=z) hv hz hl I z _ _ (Nat.le_refl _) ⟨rfl,rfl,?_,rfl,trivial⟩ (fun E' J => ?_)
 ·rw [show (l.take (a+z)).drop (a+z)=[] by rw [List.drop_eq_nil_iff,List.length_take]; omega]
  rfl
 refine WP.has (F:=[(7,.int .u64 (dm l a z:Nat))]) ⟨J,trivial⟩ (zg rfl (zm rfl (za rfl (zv ?_))))
 refine WP.ret ⟨trivial,_,rfl,?_⟩
 exact ⟨rfl,rfl⟩
theorem sZ (J:W told){a z:Nat}(s:Sat h S)(U:getA S k=some X)(hX:bU X (bZ v l))(hz:z≤7)(hl:a+z≤l.length)(I:l.length≤65536):
  Call ⟨Tryz.prog,told⟩ 134 [v,.int .i64 (a:Int),.int .i64 (z:Int)] h fun r h'=>r=.int .i64 (dm l a z:Nat)∧h'=h:=by
 have hv:=s.ax U hX
 have bB:=lu (l:=l) (a:=a) (z:=z) hv.1
 have hp:=Nat.pow_le_pow_right (n:=256) (by omega) hz
 refine Call.of_wp (J.free _ rfl) Tryz.func134 rfl rfl (zg rfl (za rfl (zv (zg rfl (zm rfl (zm rfl (zm rfl (ae.call rfl rfl rfl rfl rfl rfl rfl (LO J s U hX hz hl I) ?_))))))))
 rintro r h' ⟨rfl,rfl⟩
 refine zo rfl (bz rfl (by exact gC Tryz.underlying35 Tryz.underlying3 (aF (by omega) (by omega)))) ?_
 refine za rfl (zv ?_)
 refine WP.ret ⟨trivial,_,rfl,?_⟩
 exact ⟨rfl,rfl⟩
theorem GR (I:W told)(s:Sat h S)(J:getA S k=some X)(U:bU X (bZ v l))(hl:l.length=512):
  Call ⟨Tryz.prog,told⟩ 114 [v] h fun r h'=>r=.int .i64 (gy l:Nat)∧h'=h:=by
 refine Call.of_wp (I.free _ rfl) Tryz.func114 rfl rfl (zg rfl (za rfl (zv (zg rfl (zm rfl (ae.call rfl rfl rfl rfl rfl rfl rfl (sZ (a:=14) (z:=2) I s J U (by decide) (by omega) (by omega)) ?_))))))
 rintro r h' ⟨rfl,rfl⟩
 refine za rfl (zv ?_)
 refine WP.ret ⟨trivial,_,rfl,?_⟩
 exact ⟨rfl,rfl⟩
theorem LP (I:W told)(s:Sat h S)(J:getA S k=some X)(U:bU X (bZ v l))(hl:l.length=512):
  Call ⟨Tryz.prog,told⟩ 115 [v] h fun r h'=>r=.int .i64 (fh l:Nat)∧h'=h:=by
 refine Call.of_wp (I.free _ rfl) Tryz.func115 rfl rfl (zg rfl (za rfl (zv (zg rfl (zm rfl (ae.call rfl rfl rfl rfl rfl rfl rfl (sZ (a:=16) (z:=2) I s J U (by decide) (by omega) (by omega)) ?_))))))
 rintro r h' ⟨rfl,rfl⟩
 refine za rfl (zv ?_)
 refine WP.ret ⟨trivial,_,rfl,?_⟩
 exact ⟨rfl,rfl⟩
theorem I3 (I:W told){i:Nat}(s:Sat h S)(J:getA S k=some X)(U:bU X (bZ v l))(hl:l.length=512)(hi:30+4*i≤512):
  Call ⟨Tryz.prog,told⟩ 116 [v,.int .i64 (i:Int)] h fun r h'=>r=.aW [.int .i64 (fS l i:Nat),.int .i64 (iz l i:Nat)]∧h'=h:=by
 have e1:26+4*(i:Int)=((26+4*i:Nat):Int):=by omega
 have e2:28+4*(i:Int)=((26+4*i+2:Nat):Int):=by omega
 refine Call.of_wp (I.free _ rfl) Tryz.func116 rfl rfl (zg rfl (za rfl (za rfl (zv (zg rfl (zm rfl (zm rfl (zb rfl (by exact uk (aF (by omega) (by omega))) ?_))))))))
 refine zb rfl (by exact bl (aF (by omega) (by omega))) ?_
 rw [e1]
 refine ae.call rfl rfl rfl rfl rfl rfl rfl (sZ (a:=26+4*i) (z:=2) I s J U (by decide) (by omega) (by omega)) ?_
 rintro r h' ⟨rfl,rfl⟩
 refine zm rfl (zm rfl (zb rfl (by exact uk (aF (by omega) (by omega))) ?_))
 refine zb rfl (by exact bl (aF (by omega) (by omega))) ?_
 rw [e2]
 refine ae.call rfl rfl rfl rfl rfl rfl rfl (sZ (a:=26+4*i+2) (z:=2) I s J U (by decide) (by omega) (by omega)) ?_
 rintro r h' ⟨rfl,rfl⟩
 refine za rfl (za rfl (zv ?_))
 refine WP.ret ⟨trivial,_,rfl,?_⟩
 exact ⟨rfl,rfl⟩
noncomputable def R4 : Code:=cn [1,1,1,1,1,1,0,1,0,0] ((Tryz.f72.body).getD .skip)
noncomputable def R5 : Code:=cn [1,1,1,1,1,1,0,1,0,0,1,0,0,1,1,1,0,0] ((Tryz.f72.body).getD .skip)
theorem B1 {id a z:Nat}{v0 v3 v4 v6:V}(Tx:a+z≤512): ∀(m q:Nat) (t:List Bool) (h:H) (E:List (Nat×V)) (Q:Ex→List (Nat×V)→H→Prop),q+m=a+z→t.length=512 →
  Sat h (pt id (.cells 512 (lJ t) false)::S)→Has E [(0,v0),(3,v3),(4,v4),(5,.sl id 0 512 (.exact 512)),(6,v6),(7,.int .i64 (a:Int)),(8,.int .i64 (z:Int)),(9,.int .i64 (q:Int))] →
  (markL m q t=none→∀I h',look I 2=some (.bool false)→Sat h' S→Q .ret I h') →
  (∀t' I h',markL m q t=some t'→Has I [(0,v0),(3,v3),(4,v4),(5,.sl id 0 512 (.exact 512)),(6,v6)]→Sat h' (pt id (.cells 512 (lJ t') false)::S)→Q (.exit 2) I h') →
  WP ⟨Tryz.prog,told⟩ 68 (.loop R5) E h Q:=by
 intro m
 induction m with
 | zero =>
  intro q t h E Q hq ht s hE hr hx
  refine WP.loop (WP.has hE (zw (zg rfl (zm rfl (zm rfl (zm rfl (zb rfl (by exact bl (aF (by omega) (by omega))) ?_)))))))
  refine ae.aE rfl rfl rfl (af rfl rfl aX) (by simp; omega) ?_
  refine zv (zj rfl (WP.exit ?_))
  exact hx t _ _ rfl ⟨rfl,rfl,rfl,rfl,rfl,trivial⟩ s
 | succ m ih =>
  intro q t h E Q hq ht s hE hr hx
  have J:q<t.length:=by omega
  have U:indexAddrV Tryz.prog 186 (.sl id 0 512 (.exact 512)) (.int .i64 (q:Int))=some (.ptr id q):=by
   rw [O3,show (decide ((0:Int)≤(q:Int))&&decide ((q:Int)<((512:Nat):Int)))=true by simp; omega,cond_true]; simp
  refine WP.loop (WP.has hE (zw (zg rfl (zm rfl (zm rfl (zm rfl (zb rfl (by exact bl (aF (by omega) (by omega))) ?_)))))))
  refine ae.aR rfl rfl rfl (af rfl rfl aX) (by simp; omega) ?_
  refine zv (zi rfl (WP.skip (zw (WP.block (zw (zg rfl (zm rfl (zm rfl (zo rfl (cH (r:=.ptr id q) rfl rfl U) ?_)))))))))
  cases hm:t.getD q false with
  | true =>
   refine ae.aR rfl rfl rfl (aI rfl (s.ld (k:=0) rfl gU (sW J))) (hm) (zv (zi rfl (zg rfl (za rfl (zv (WP.ret ?_))))))
   refine hr ?_ _ _ rfl s.drop
   rw [markL,if_pos hm]
  | false =>
   refine ae.aE rfl rfl rfl (aI rfl (s.ld (k:=0) rfl gU (sW J))) (hm) (zv (zj rfl (WP.skip (zr rfl (zm rfl (zm rfl (zo rfl (cH (r:=.ptr id q) rfl rfl U) (ae.bn rfl rfl rfl rfl rfl (s.cZ (k:=0) rfl qK (by simp [lJ,ht]) (by omega) rfl rfl) ?_))))))))
   intro h s
   dsimp only [setA] at s
   rw [CP] at s
   refine zv (zr rfl (zm rfl (zb rfl (by exact bl (aF (by omega) (by omega))) ?_)))
   refine za rfl (zv ?_)
   have e:markL (m+1) q t=markL m (q+1) (t.set q true):=by rw [markL,if_neg (by rw [hm]; decide)]
   rw [e] at hr hx
   exact ih (q+1) (t.set q true) h _ Q (by omega) (by simp [ht]) s ⟨rfl,rfl,rfl,rfl,rfl,rfl,rfl,rfl,trivial⟩ hr hx
theorem B2 (hT:W told){id:Nat}{n low:Nat}{x:V}(hX:bU X (bZ x l))(hl:l.length=512)(bB:∀b∈l,b<256)(hn:n=gy l)(Iw:26+4*n≤low)(Pf:low≤512): ∀(m i:Nat) (t:List Bool) (h:H) (E:List (Nat×V)) (Q:Ex→List (Nat×V)→H→Prop),i+m=n→t.length=512 →
  Sat h (pt id (.cells 512 (lJ t) false)::X::S)→Has E [(0,x),(3,.int .i64 (n:Int)),(4,.int .i64 (low:Int)),(5,.sl id 0 512 (.exact 512)),(6,.int .i64 (i:Int))] →
  (cellsL l low m i t=false→∀U h',look U 2=some (.bool false)→Sat h' (X::S)→Q .ret U h') →
  (cellsL l low m i t=true→∀U h',Sat h' (X::S)→Q (.exit 0) U h') →
  WP ⟨Tryz.prog,told⟩ 68 (.loop R4) E h Q:=by
 intro m
 induction m with
 | zero =>
  intro i t h E Q hi ht s hE J hx
  refine WP.loop (WP.has hE (zw (zg rfl (zm rfl (zm rfl (ae.aE rfl rfl rfl (af rfl rfl aX) (by simp; omega) ?_))))))
  refine zv (zj rfl (WP.exit ?_))
  exact hx rfl _ _ s.drop
 | succ m ih =>
  intro i t h E Q hi ht s hE J hx
  have hf:=lu (l:=l) (a:=26+4*i) (z:=2) bB
  have hz:=lu (l:=l) (a:=26+4*i+2) (z:=2) bB
  have ef:fS l i=dm l (26+4*i) 2:=rfl
  have ez:iz l i=dm l (26+4*i+2) 2:=rfl
  refine WP.loop (WP.has hE (zw (zg rfl (zm rfl (zm rfl (ae.aR rfl rfl rfl (af rfl rfl aX) (by simp; omega) ?_))))))
  refine zv (zi rfl (WP.skip (zw (WP.block (zg rfl (zm rfl (zm rfl (ae.call rfl rfl rfl rfl rfl rfl rfl (I3 (i:=i) hT s (k:=1) rfl hX hl (by omega)) ?_))))))))
  rintro r h' ⟨rfl,rfl⟩
  refine zm rfl (ze rfl (ze rfl (za rfl (za rfl (zv (zw (zg rfl (zm rfl (zm rfl ?_)))))))))
  refine ae.dh rfl rfl rfl (af rfl rfl aX) ?_ ?_
  ·intro hq
   have hq:fS l i<low:=by simp at hq; omega
   refine zm rfl (zx rfl (zx rfl (zx rfl (zx rfl (zq rfl (zv (zi rfl (zg rfl (za rfl (zv (WP.ret ?_)))))))))))
   refine J ?_ _ _ rfl s.drop
   rw [cellsL,if_pos (.inl hq)]
  ·intro hq
   have hq:low≤fS l i:=by simp at hq; omega
   refine zm rfl (zm rfl (zm rfl (zb rfl (by exact bl (aF (by omega) (by omega))) ?_)))
   refine ae.dh rfl rfl rfl (af rfl rfl dS) ?_ ?_
   ·intro I
    have I:512<fS l i+iz l i:=by simp at I; omega
    refine zp rfl (zv (zi rfl (zg rfl (za rfl (zv (WP.ret ?_))))))
    refine J ?_ _ _ rfl s.drop
    rw [cellsL,if_pos (.inr I)]
   ·intro I
    have I:fS l i+iz l i≤512:=by simp at I; omega
    refine zp rfl (zv (zj rfl (WP.skip (zg rfl (zm rfl (za rfl (zv (WP.block ?_))))))))
    have e:cellsL l low (m+1) i t=(match markL (iz l i) (fS l i) t with | none=>false | some t'=>cellsL l low m (i+1) t'):=by rw [cellsL,if_neg (by omega)]; rfl
    rw [e] at J hx
    refine B1 I (iz l i) (fS l i) t _ _ _ rfl ht s ⟨rfl,rfl,rfl,rfl,rfl,rfl,rfl,rfl,trivial⟩ (fun hm U h' h2 s' => ?_) (fun t' U h' hm fu s' => ?_)
    ·rw [hm] at J
     exact J rfl _ _ h2 s'
    ·rw [hm] at J hx
     refine WP.has fu (zr rfl (zm rfl (zb rfl (by exact bl (aF (by omega) (by omega))) ?_)))
     refine za rfl (zv ?_)
     exact ih (i+1) t' _ _ Q (by omega) (by rw [xP _ _ _ _ hm,ht]) s' ⟨rfl,rfl,rfl,rfl,rfl,trivial⟩ J hx
theorem AU (hT:W told)(s:Sat h (X::S))(hX:bU X (bZ v l)):
  Call ⟨Tryz.prog,told⟩ 72 [v] h fun r h'=>r=.bool (bu l)∧Sat h' (X::S):=by
 have hv:=s.ax (k:=0) rfl hX
 refine Call.of_wp (hT.free _ rfl) Tryz.func72 rfl rfl (zg rfl (za rfl (zv (zw (zg rfl (zm rfl (zo rfl (aL rfl rfl rfl (aG Tryz.underlying32 hv)) ?_)))))))
 refine ae.dh rfl rfl rfl (af rfl rfl aN) ?_ ?_
 ·intro hq
  have hq:l.length≠512:=by simp at hq; omega
  refine zm rfl (zx rfl (zx rfl (zx rfl (zx rfl (zq rfl (zv (zi rfl (zg rfl (za rfl (zv ?_))))))))))
  refine WP.ret ⟨trivial,_,rfl,?_⟩
  exact ⟨by rw [bu,decide_eq_false hq,Bool.false_and],s⟩
 ·intro hq
  have hq:l.length=512:=by simp at hq; omega
  have hb:l[13]?=some (l[13]'(by omega)):=List.getElem?_eq_getElem _
  generalize uX:(l[13]'(by omega))=b at hb
  have pz:l.getD 13 0=b:=by rw [List.getD_eq_getElem?_getD,hb]; rfl
  obtain ⟨id,off,e1,e2⟩:=eS hv hb
  refine zm rfl (zm rfl (zo rfl (cH (r:=.ptr id off) rfl rfl e1) (zl rfl e2 ?_)))
  refine ae.dh rfl rfl rfl (af rfl rfl aN) ?_ ?_
  ·intro I
   have I:b≠0:=by simp at I; omega
   refine zp rfl (zv (zi rfl (zg rfl (za rfl (zv ?_)))))
   refine WP.ret ⟨trivial,_,rfl,?_⟩
   exact ⟨by rw [bu,decide_eq_true hq,pz,decide_eq_false I,Bool.false_and,Bool.and_false],s⟩
  ·intro I
   have I:b=0:=by simp at I; omega
   refine zp rfl (zv (zj rfl (WP.skip (zg rfl (zm rfl (ae.call rfl rfl rfl rfl rfl rfl rfl (GR hT s (k:=0) rfl hX hq) ?_))))))
   rintro r h' ⟨rfl,rfl⟩
   refine za rfl (zv (zg rfl (zm rfl (ae.call rfl rfl rfl rfl rfl rfl rfl (LP hT s (k:=0) rfl hX hq) ?_))))
   rintro r h' ⟨rfl,rfl⟩
   have tI:=lu (l:=l) (a:=14) (z:=2) hv.1
   have tJ:=lu (l:=l) (a:=16) (z:=2) hv.1
   have ec:gy l=dm l 14 2:=rfl
   have el:fh l=dm l 16 2:=rfl
   refine za rfl (zv (zw (zg rfl (zm rfl (zb rfl (by exact uk (aF (by omega) (by omega))) ?_)))))
   refine zb rfl (by exact bl (aF (by omega) (by omega))) ?_
   refine zm rfl ?_
   refine ae.dh rfl rfl rfl (af rfl rfl dS) ?_ ?_
   ·intro J
    have J:fh l<26+4*gy l:=by simp at J; omega
    refine zm rfl (zx rfl (zx rfl (zq rfl (zv (zi rfl (zg rfl (za rfl (zv ?_))))))))
    refine WP.ret ⟨trivial,_,rfl,?_⟩
    exact ⟨by rw [bu,decide_eq_true hq,pz,decide_eq_true I,decide_eq_false (by omega:¬(26+4*gy l≤fh l∧fh l≤512))]; rfl,s⟩
   ·intro J
    have J:26+4*gy l≤fh l:=by simp at J; omega
    refine zm rfl (zm rfl ?_)
    refine ae.dh rfl rfl rfl (af rfl rfl dS) ?_ ?_
    ·intro U
     have U:512<fh l:=by simp at U; omega
     refine zp rfl (zv (zi rfl (zg rfl (za rfl (zv ?_)))))
     refine WP.ret ⟨trivial,_,rfl,?_⟩
     exact ⟨by rw [bu,decide_eq_true hq,pz,decide_eq_true I,decide_eq_false (by omega:¬(26+4*gy l≤fh l∧fh l≤512))]; rfl,s⟩
    ·intro U
     have U:fh l≤512:=by simp at U; omega
     obtain ⟨i1,js,iI,pq⟩:=GP
     obtain ⟨id,h1,e1,s1⟩:=rP (P:=Tryz.prog) s Tryz.underlying186 js Qd iI (by omega) rfl (by decide) (n:=512) (by decide)
     refine zp rfl (zv (zj rfl (WP.skip (zg rfl (ae.any rfl rfl rfl (OpR.of (R:=fun v h'=>v=.sl id 0 512 (.exact 512)∧h'=h1) (ow rfl rfl e1) ⟨rfl,rfl⟩) ?_)))))
     rintro v h ⟨rfl,rfl⟩
     rw [Nat.mul_one,show (V.bool false).cells=[V.bool false] from rfl,LN] at s1
     have s:=s1
     refine za rfl (zv (zw (zg rfl (za rfl (zv (WP.block ?_))))))
     have QO:bu l=cellsL l (fh l) (gy l) 0 (List.replicate 512 false):=by rw [bu,decide_eq_true hq,pz,decide_eq_true I,decide_eq_true ⟨J,U⟩]; rfl
     refine B2 hT (n:=gy l) (low:=fh l) hX hq hv.1 rfl J U (gy l) 0 (List.replicate 512 false) _ _ _ (by omega) List.length_replicate s ⟨rfl,rfl,rfl,rfl,rfl,trivial⟩ (fun hc E' h' h2 s' => ?_) (fun hc E' h' s' => ?_)
     ·exact ⟨trivial,_,oO h2,by rw [QO,hc],s'⟩
     ·have s:=s'
      refine WP.has (F:=[]) trivial (zg rfl (za rfl (zv ?_)))
      refine WP.ret ⟨trivial,_,rfl,?_⟩
      exact ⟨by rw [QO,hc],s⟩
end
end Go.Proofs.YtconhghphklfjaaGreat.Am
namespace Go.Proofs.YtconhghphklfjaaGreat.Am
open Go
theorem Ei : ∀ {l:List Nat},(∀b∈l,b<256)→bytesOf (ofBytes l)=some l:=by
 intro l
 induction l with
 | nil=>intro _; rfl
 | cons b l J =>
  intro h
  have I:=J fun x U=>h x (List.mem_cons_of_mem _ U)
  have h2:=h b List.mem_cons_self
  rw [ofBytes] at I
  simp only [ofBytes,List.map_cons,bytesOf,I,Option.some.injEq,List.cons.injEq,and_true]
  omega
theorem qN {h:H}{v:V}{l:List Nat}(I:View h v l): convV Tryz.prog h 32 9 v=some (.str l,h):=by
 obtain ⟨J,(⟨rfl | ⟨ea,rfl⟩,rfl⟩ | ⟨id,off,cap,n,cs,st,rfl,U,hl,ho,hc,_⟩)⟩:=I
 ·simp only [convV,Tryz.underlying32,Tryz.underlying9,Tryz.underlying5]
 ·simp only [convV,Tryz.underlying32,Tryz.underlying9,Tryz.underlying5]
 ·have e:rdN h id off l.length=some (ofBytes l):=by rw [vC U hl ho,hc]
  simp only [convV,Tryz.underlying32,Tryz.underlying9,Tryz.underlying5,e,Ei J]
theorem NT (l:List Nat): (V.str l).beq (.str l)=true:=by simp only [V.beq,me,decide_true]
def jk (l:List Nat): List Nat:=if l.length≠512∨l=List.replicate 512 0 then [] else l.drop 12
def qt (e:Int)(b w:List Nat): Bool:=decide (e=0)&&(decide (jk b=w)&&decide (dQ b≠4))
section
variable {told:Nat→Option (List V→H→Option (V×H))} {h:H} {S:List ah} {X:ah} {r k q p a g aK:Nat} {op v x:V} {l data:List Nat} {now:List (Int×List Nat)} {bq:Bool} {ε:aM}
theorem LQ (hT:W told)(s:Sat h (X::S))(I:bU X (bZ v l)): Call ⟨Tryz.prog,told⟩ 24 [v] h fun r h'=>r=.str (jk l)∧Sat h' (X::S):=by
 have hv:=s.ax (k:=0) rfl I
 have QS:=cg hv
 have J:=NT l
 refine Call.of_wp (hT.free _ rfl) Tryz.func24 rfl rfl (zg rfl (za rfl (zv (zw (zw ?_)))))
 have s0:=s
 by_cases hl:l.length=512
 ·have fin:∀h,Sat h (X::S)→l≠List.replicate 512 0→(V.str (l.drop 12)=.str (jk l)∧Sat h (X::S)):=fun h s U=>⟨by rw [jk,if_neg (by rintro (h | h); exact h hl; exact U h)],s⟩
  by_cases U:l=List.replicate 512 0
  ·skip
   refine WP.drawn [none,none,none,none,some (0,2),some (0,2),none,none,none,none] rfl (by kernel_rfl) (by kernel_rfl) ?_
   refine zM rfl (zO rfl (aL rfl rfl rfl (aG Tryz.underlying32 (s.ax (k:=0) rfl I))) (au.aE rfl rfl rfl rfl (af rfl rfl aN) (by simp; omega) ?_))
   refine zM rfl (zM rfl (au.op rfl rfl rfl (by simp only [isEff,Tryz.underlying9]) (bz rfl (by exact qN (s.ax (k:=0) rfl I))) ?_))
   refine au.any rfl rfl rfl rfl (OpR.yQ rfl s rfl rfl rfl rfl (by decide)) ?_
   intro z h s
   refine au.op rfl rfl rfl (by simp only [isEff,Tryz.underlying9]) (bz rfl (qN (s.ax (k:=0) rfl (bk _ _)))) ?_
   refine au.aR rfl rfl rfl rfl (af rfl rfl yL) (decide_eq_true U) (zO rfl (kA rfl rfl) ?_)
   refine au.nil ⟨⟨trivial,trivial,trivial,trivial,fun _ _=>.inr ⟨rfl,⟨_,aV rfl⟩,QS⟩,cR (.inr ⟨rfl,⟨_,bz rfl (by exact qN (s0.ax (k:=0) rfl I))⟩,J⟩) (.inr ⟨rfl,⟨_,bz rfl (by exact qN (s.ax (k:=1) rfl I))⟩,J⟩),trivial,trivial,trivial,trivial,trivial⟩,?_⟩
   refine zi rfl (zg rfl (za rfl (zv ?_)))
   refine WP.ret ⟨trivial,_,rfl,?_⟩
   exact ⟨by rw [jk,if_pos (.inr U)]; rfl,s.drop⟩
  ·skip
   refine WP.drawn [none,none,none,none,some (0,2),some (0,2),none,none,none,none] rfl (by kernel_rfl) (by kernel_rfl) ?_
   refine zM rfl (zO rfl (aL rfl rfl rfl (aG Tryz.underlying32 (s.ax (k:=0) rfl I))) (au.aE rfl rfl rfl rfl (af rfl rfl aN) (by simp; omega) ?_))
   refine zM rfl (zM rfl (au.op rfl rfl rfl (by simp only [isEff,Tryz.underlying9]) (bz rfl (by exact qN (s.ax (k:=0) rfl I))) ?_))
   refine au.any rfl rfl rfl rfl (OpR.yQ rfl s rfl rfl rfl rfl (by decide)) ?_
   intro z h s
   refine au.op rfl rfl rfl (by simp only [isEff,Tryz.underlying9]) (bz rfl (qN (s.ax (k:=0) rfl (bk _ _)))) ?_
   refine au.aE rfl rfl rfl rfl (af rfl rfl yL) (decide_eq_false U) (zO rfl (kA rfl rfl) ?_)
   refine au.nil ⟨⟨trivial,trivial,trivial,trivial,fun _ _=>.inr ⟨rfl,⟨_,aV rfl⟩,QS⟩,cR (.inr ⟨rfl,⟨_,bz rfl (by exact qN (s0.ax (k:=0) rfl I))⟩,J⟩) (.inr ⟨rfl,⟨_,bz rfl (by exact qN (s.ax (k:=1) rfl I))⟩,J⟩),trivial,trivial,trivial,trivial,trivial⟩,?_⟩
   have iU:=cT (s.ax (k:=1) rfl I) (a:=12) (by omega)
   refine zj rfl (WP.skip (zg rfl (zm rfl (zo rfl (bM (p:=some (.int .i64 12)) (q:=none) (m:=none) (p':=some 12) (q':=none) (m':=none) rfl rfl rfl rfl rfl rfl rfl iU.1) (zo rfl (bz rfl (qN iU.2.1)) (za rfl (zv ?_)))))))
   refine WP.ret ⟨trivial,_,rfl,?_⟩
   exact fin _ s.drop U
 ·skip
  refine WP.drawn [none,none,none,none,some (0,2),some (0,2),none,none,none,none] rfl (by kernel_rfl) (by kernel_rfl) ?_
  refine zM rfl (zO rfl (aL rfl rfl rfl (aG Tryz.underlying32 (s.ax (k:=0) rfl I))) (au.aR rfl rfl rfl rfl (af rfl rfl aN) (by simp; omega) ?_))
  refine zM rfl (au.no (e:=false) rfl rfl rfl rfl (au.no (e:=false) rfl rfl rfl (by simp only [isEff,Tryz.underlying9]) ?_))
  refine au.no (e:=true) rfl rfl rfl rfl (au.no (e:=false) rfl rfl rfl (by simp only [isEff,Tryz.underlying9]) ?_)
  refine au.no (e:=false) rfl rfl rfl rfl (zO rfl (sF rfl rfl) ?_)
  refine au.nil ⟨⟨trivial,trivial,trivial,trivial,fun _ _=>.inl rfl,fun _ _=>.inl rfl,trivial,trivial,trivial,trivial,trivial⟩,?_⟩
  refine zi rfl (zg rfl (za rfl (zv ?_)))
  refine WP.ret ⟨trivial,_,rfl,?_⟩
  exact ⟨by rw [jk,if_pos (.inl hl)]; rfl,s⟩
theorem LS (hT:W told){n:Int}{w:List Nat}(s:Sat h (eE g a now bq::cz a p q r op data aK::cB r p q ε.1::bj q p ε.2.1::az p ε.2.2::S))(U:ga ε)(hw:ε.2.2.waiting.length≤268435456)(I:∀e∈now,e.2.length=512):
  Call ⟨Tryz.prog,told⟩ 16 [.iface 27 (.ptr g 0),.int .i64 n,.str w] h fun v h'=>∃e b ε',kM ε now bq n e b ε'∧v=.bool (qt e b w) ∧
   Sat h' (eE g a now bq::cz a p q r op data aK::cB r p q ε'.1::bj q p ε'.2.1::az p ε'.2.2::S):=by
 refine Call.of_wp (hT.free _ rfl) Tryz.func16 rfl rfl (zg rfl (za rfl (zv (zg rfl (zm rfl (zm rfl (ae.any rfl rfl rfl (OpR.invoke rfl rfl rfl C2 rfl (AJ hT (n:=n) s U hw I)) ?_)))))))
 rintro v h ⟨e,b,ε',J,(⟨he,rfl,s⟩ | ⟨rfl,u,rfl,s⟩)⟩
 ·refine ae.op rfl rfl rfl (aV rfl) ?_
  refine ze rfl (ze rfl (za rfl (za rfl (zv (zg rfl (zm rfl (ae.aE rfl rfl rfl (af rfl rfl cS) (by simp; exact he) ?_)))))))
  refine zm rfl (zx rfl (zx rfl (zx rfl (zx rfl (zp rfl (zm rfl (zx rfl (zx rfl (zx rfl (zp rfl (za rfl (zv ?_))))))))))))
  refine WP.ret ⟨trivial,_,rfl,?_⟩
  exact ⟨e,b,ε',J,by rw [qt,decide_eq_false he,Bool.false_and],s⟩
 ·have hlen:b.length=512:=by
   cases J with
   | own b h1 h2 h hl=>exact I _ (fc hl)
   | read e b ε' h1 h2 h hl J=>exact J.len U
  refine zm rfl (ze rfl (ze rfl (za rfl (za rfl (zv (zg rfl (zm rfl (ae.aR rfl rfl rfl (af rfl rfl cS) (rfl) (zm rfl (zm rfl (ae.call rfl rfl rfl rfl rfl rfl rfl (LQ hT s (bk _ _)) ?_)))))))))))
  rintro r h ⟨rfl,s⟩
  refine zm rfl ?_
  by_cases hb:jk b=w
  ·skip
   refine ae.aR rfl rfl rfl (af rfl rfl yL) (decide_eq_true hb) (zq rfl (zm rfl (zm rfl (ae.call rfl rfl rfl rfl rfl rfl rfl (uw hT s (bk _ _) (by omega)) ?_))))
   rintro r h ⟨rfl,s⟩
   by_cases hc:dQ b=4
   ·skip
    refine ae.aE rfl rfl rfl (af rfl rfl aN) (by simp; exact hc) ?_
    refine zq rfl (za rfl (zv ?_))
    refine WP.ret ⟨trivial,_,rfl,?_⟩
    exact ⟨0,b,ε',J,by rw [qt,show decide (dQ b≠4)=false from decide_eq_false (not_not_intro hc),Bool.and_false,Bool.and_false],s.drop⟩
   ·skip
    refine ae.aR rfl rfl rfl (af rfl rfl aN) (by simp; exact hc) ?_
    refine zq rfl (za rfl (zv ?_))
    refine WP.ret ⟨trivial,_,rfl,?_⟩
    exact ⟨0,b,ε',J,by rw [qt,decide_eq_true hc,decide_eq_true hb]; rfl,s.drop⟩
  ·skip
   refine ae.aE rfl rfl rfl (af rfl rfl yL) (decide_eq_false hb) (zq rfl (zm rfl (zx rfl (zx rfl (zx rfl (zp rfl (za rfl (zv ?_))))))))
   refine WP.ret ⟨trivial,_,rfl,?_⟩
   exact ⟨0,b,ε',J,by rw [qt,decide_eq_false hb,Bool.false_and,Bool.and_false],s.drop⟩
end
end Go.Proofs.YtconhghphklfjaaGreat.Am
